/- Walk: the reference's Common. -/
import Derived.Deep.DeepCutAuto
import Derived.Test.YtnlnclefedohkaaGreatDoorZAgK
import Derived.Test.YtnlnclefedohkaaGreatDoorZRAgrW
import Derived.Test.YtnlnclefedohkaaGreatDoorZRAddF
import Derived.Test.YtnlnclefedohkaaGreatDoorZRMChk
import Derived.Test.YtnlnclefedohkaaGreatDoorZRCommon
import Derived.Test.YtnlnclefedohkaaGreatDoorZRSimpW
set_option linter.unusedVariables false
set_option linter.unusedSimpArgs false
namespace Go.Proofs.YtnlnclefedohkaaGreatDoor
open Go Go.RowKit Sy

def prE6 (p : NewE × NewE) : Ent × Ent:=(p.1.e,p.2.e)
theorem pz_pr6 (za zb : List NewE) : (pz za zb).map prE6 = pairsL (za.map (·.e)) (zb.map (·.e)):=by
 unfold pz pairsL
 rw [List.map_flatMap,List.flatMap_map]
 congr 1
 funext x
 rw [List.map_map,List.map_map]
 rfl
theorem pr_stop6 {of : Ent → Ent → Option (Option Reg)} {za zb : List NewE} {L : List (NewE × NewE)} (h : L <+: pz za zb) (hc : regsL of (L.map prE6) = none) : regsL of (pairsL (za.map (·.e)) (zb.map (·.e))) = none:=by
 obtain ⟨t,ht⟩:=h
 rw [← pz_pr6,← ht,List.map_append,regsL_app,hc]
def baE (ag : Bool) (x y : Ent) : Option (Option Pat):=if ag then (if (agE x.rule y.rule).2 ≠ 0 then none else some (agE x.rule y.rule).1) else some (meetP x.left y.left)
def ofB (ag : Bool) : Ent → Ent → Option (Option Reg):=if ag then agOf else ovOf
theorem ofB_none {ag : Bool} {x y : Ent} (h : baE ag x y = none) : ofB ag x y = none:=by
 cases ag with
 |false=>cases h
 |true=>
  unfold baE at h
  unfold ofB agOf
  simp only [if_true] at h ⊢
  by_cases h0 : (agE x.rule y.rule).2 ≠ 0
  ·rw [if_pos h0]
  ·rw [if_neg h0] at h
   cases h
def redO (hs : List Pat) : Option Pat → Option (Option Reg)
 |none=>some none
 |some p=>redG p hs
theorem ofB_some {ag : Bool} {x y : Ent} {o : Option Pat} (h : baE ag x y = some o) : ofB ag x y = redO (x.hs ++ y.hs) o:=by
 cases ag with
 |false=>
  obtain rfl:=Option.some.inj h
  unfold ofB ovOf
  simp only [Bool.false_eq_true,if_false]
  rcases meetP x.left y.left with _ | m <;> rfl
 |true=>
  unfold baE at h
  unfold ofB agOf
  simp only [if_true] at h ⊢
  by_cases h0 : (agE x.rule y.rule).2 ≠ 0
  ·rw [if_pos h0] at h
   cases h
  ·rw [if_neg h0] at h ⊢
   obtain rfl:=Option.some.inj h
   rcases (agE x.rule y.rule).1 with _ | m <;> rfl
def MtAny (o : Option Pat) (w' : World) (P : Nat) (A : Option Addr) (n c : Nat) (r ok : Bool) : Prop:=(o = none ∧ ok = false) ∨ ∃ p,o = some p ∧ ok = true ∧ p.parts.length = n ∧ p.rest = r ∧ SmallN w' P ⟨A,c,p⟩
theorem MtAny.calm {o : Option Pat} {w' w2 : World} {P : Nat} {A : Option Addr} {n c : Nat} {r ok : Bool} (h : MtAny o w' P A n c r ok) (hc : Calm w' w2) : MtAny o w2 P A n c r ok:=by
 rcases h with h | ⟨p,h1,h2,h3,h4,h5⟩
 ·exact .inl h
 ·exact .inr ⟨p,h1,h2,h3,h4,h5.calm hc⟩
structure BasAt (w5 wx : World) (b : Nat) (o : Option Pat) (A : Option Addr) (n c : Nat) (r ok : Bool) : Prop where
 calm : Calm w5 wx
 two : TwoB wx b (.slice A n c) (.bool r)
 any : MtAny o wx w5.heap.size A n c r ok
theorem basAt_set {w5 wm wx : World} {b : Nat} {v0 v1 : Value} {o : Option Pat} {A : Option Addr} {n c : Nat} {r ok : Bool} (hz : TwoB wx b v0 v1) (hc : Calm w5 wx) (h5 : w5.heap.size ≤ b) (hb : b < wm.heap.size) (h : MtAny o wx wm.heap.size A n c r ok) : BasAt w5 ((wx.setCell ⟨b,0,none⟩ (.slice A n c)).setCell ⟨b,1,none⟩ (.bool r)) b o A n c r ok:=by
 refine ⟨calm2b hc h5 _ _,two_put hz _ _,?_⟩
 rcases h with h | ⟨p,h1,h2,h3,h4,h6⟩
 ·exact .inl h
 ·exact .inr ⟨p,h1,h2,h3,h4,smallN_mono (smallN_set (smallN_set h6 _ (by show b < _;omega)) _ (by show b < _;omega)) (by omega)⟩
structure SmpAt (w5 wx : World) (b : Nat) (v0 v1 : Value) (KA : Option Addr) (gm kc : Nat) (gs : List Pat) : Prop where
 calm : Calm w5 wx
 box : RgB wx b v0 v1 (.slice KA gm kc)
 holes : PatsN wx w5.heap.size KA kc gs
theorem smpAt_new {w5 w9 : World} {P : Nat} {v0 v1 : Value} {KA : Option Addr} {gm kc : Nat} {gs : List Pat} (hc : Calm w5 w9) (hP : w5.heap.size ≤ P) (h : PatsN w9 P KA kc gs) : SmpAt w5 (w9.alloc (.cells #[v0,v1,.slice KA gm kc] 68)) w9.heap.size v0 v1 KA gm kc gs:=
 ⟨hc.alloc _,RgB.new w9 _ _ _,(h.mono hP).calm ((Calm.refl w9).alloc _)⟩
theorem smpAt_set {w5 w9 : World} {b P : Nat} {z0 z1 z2 v0 v1 : Value} {KA : Option Addr} {gm kc : Nat} {gs : List Pat} (hz : RgB w9 b z0 z1 z2) (hc : Calm w5 w9) (h5 : w5.heap.size ≤ b) (hb : b < P) (hP : w5.heap.size ≤ P) (h : PatsN w9 P KA kc gs) :
  SmpAt w5 (((w9.setCell ⟨b,0,none⟩ v0).setCell ⟨b,1,none⟩ v1).setCell ⟨b,2,none⟩ (.slice KA gm kc)) b v0 v1 KA gm kc gs:=
 ⟨calm3 (o:=0) hc h5 _ _ _,hz.set3 _ _ _,(((h.set (p:=⟨b,0,none⟩) _ hb).set (p:=⟨b,1,none⟩) _ hb).set (p:=⟨b,2,none⟩) _ hb).mono hP⟩
theorem five_grown {w w' : World} {B : Nat} {row : Option Nat} {v0 v1 v2 v3 v4 : Value} (h : FiveB w B v0 v1 v2 v3 v4) (hg : w.grownBy w' row) (hne : some B ≠ row) (hs : w.heap.size ≤ w'.heap.size) : FiveB w' B v0 v1 v2 v3 v4:=by
 have hbk:=hg.block B h.lt hne
 exact ⟨Nat.lt_of_lt_of_le h.lt hs,(World.cell?_of_block (a:=⟨B,0,none⟩) hbk).trans h.c0,(World.cell?_of_block (a:=⟨B,1,none⟩) hbk).trans h.c1,(World.cell?_of_block (a:=⟨B,2,none⟩) hbk).trans h.c2,(World.cell?_of_block (a:=⟨B,3,none⟩) hbk).trans h.c3,(World.cell?_of_block (a:=⟨B,4,none⟩) hbk).trans h.c4,fun o=>(World.frozen?_of_block (a:=⟨B,o,none⟩) hbk).trans (h.fz o)⟩
theorem fresh_ne {w : World} {v v' : Value} {B : Nat} (h : Fresh w v v') (hne : some B ≠ v.ownBlock) (hB : B < w.heap.size) : some B ≠ v'.ownBlock:=by
 rcases h with h | ⟨gg,h,hge⟩
 ·rw [h];exact hne
 ·rw [h]
  intro e
  obtain rfl:=Option.some.inj e
  omega
theorem baE_pat {ag : Bool} {x y : Ent} {p : Pat} (hx : ruleErr x.rule = 0) (hy : ruleErr y.rule = 0) (h : baE ag x y = some (some p)) : patErr p = 0:=by
 cases ag with
 |false=>exact (meetP_some (Option.some.inj h)).2.2.2
 |true=>
  unfold baE at h
  simp only [if_true] at h
  by_cases h0 : (agE x.rule y.rule).2 ≠ 0
  ·rw [if_pos h0] at h
   cases h
  ·rw [if_neg h0] at h
   exact ((agE_mean (l:=[]) hx hy (by simpa using h0) (by rfl)).1 p (Option.some.inj h)).1
set_option maxRecDepth 100000 in
set_option maxHeartbeats 40000000 in
theorem rcmn_c (es fs : List Ent) (ag : Bool) (n c n2 c2 : Nat) (A A2 : Option Addr) (w : World) (h : EntsA w A es) (hcn : n ≤ c) (hcc : c ≤ 9223372036854775807) (hn : es.length = n) (hs : ∀ x ∈ es,SmallE x) (h2 : EntsA w A2 fs) (hcn2 : n2 ≤ c2) (hcc2 : c2 ≤ 9223372036854775807) (hn2 : fs.length = n2) (hs2 : ∀ x ∈ fs,SmallE x) :
  Calls Tryz.prog 12 #[.slice A n c,.slice A2 n2 c2,.bool ag] w fun e w'=>RegOutR (regsE (ofB ag) es fs).1 (regsE (ofB ag) es fs).2 e w' ∧ Calm w w':=by
 obtain ⟨ea,hea⟩ : ∃ ea,(mapE es).2 = ea:=⟨_,rfl⟩
 obtain ⟨ia,hia⟩ : ∃ ia,(mapE es).1 = ia:=⟨_,rfl⟩
 obtain ⟨eb,heb⟩ : ∃ eb,(mapE fs).2 = eb:=⟨_,rfl⟩
 obtain ⟨ib,hib⟩ : ∃ ib,(mapE fs).1 = ib:=⟨_,rfl⟩
 have KC1:=rmchk_c es n c A w h hcn hcc hs hn
 rw [hea,hia] at KC1
 have KC2 : Hid (∀ W,Calm w W → Calls Tryz.prog 27 #[.slice A2 n2 c2] W fun e w'=>e = .returned (.tuple #[.int .i64 (ib : Nat),.int .i64 eb]) ∧ Calm W w'):=fun W hW=>by
  have:=rmchk_c fs n2 c2 A2 W (h2.calm hW) hcn2 hcc2 hs2 hn2
  rw [heb,hib] at this
  exact this
 have HE0 : ea ≠ 0 → Hid (regsE (ofB ag) es fs = ([],ea)):=fun h0=>by
  show regsE (ofB ag) es fs = _
  unfold regsE
  rw [hea,if_pos h0]
 have HE1 : ea = 0 → eb ≠ 0 → Hid (regsE (ofB ag) es fs = ([],eb)):=fun h0 h1=>by
  show regsE (ofB ag) es fs = _
  unfold regsE
  rw [hea,if_neg (by simpa using h0),heb,if_pos h1]
 have HE2 : ea = 0 → eb = 0 → Hid (Mapping es ∧ Mapping fs ∧ (∀ out,regsL (ofB ag) (pairsL es fs) = some out → regsE (ofB ag) es fs = if 32 < out.length then ([],72) else (out,0)) ∧ (regsL (ofB ag) (pairsL es fs) = none → regsE (ofB ag) es fs = ([],72))):=fun h0 h1=>by
  refine ⟨(mapE_zero (hea.trans h0)).1,(mapE_zero (heb.trans h1)).1,fun out ho=>?_,fun ho=>?_⟩
  ·unfold regsE
   rw [hea,if_neg (by simpa using h0),heb,if_neg (by simpa using h1),ho]
  ·unfold regsE
   rw [hea,if_neg (by simpa using h0),heb,if_neg (by simpa using h1),ho]
 obtain ⟨hl1,za,hza,hrA,heA⟩:=h
 obtain ⟨hl2,zb,hzb,hrB,heB⟩:=h2
 have hna : za.length = n:=by rw [← hn,← hza,List.length_map]
 have hnb : zb.length = n2:=by rw [← hn2,← hzb,List.length_map]
 have HZ:=Lib.hid (And.intro hza hzb)
 have HRd:=Lib.hid (And.intro hrA hrB)
 have HEnt:=Lib.hid (And.intro heA heB)
 have HLen:=Lib.hid (And.intro hna (And.intro hnb (And.intro hn hn2)))
 have HSm:=Lib.hid (And.intro hs hs2)
 have HKC:=Lib.hid KC1
 have hnn : n ≤ 1048576 ∧ n2 ≤ 1048576:=⟨by omega,by omega⟩
 clear hn hs hn2 hs2 hea hia heb hib KC1 hl1 hl2 hza hrA heA hzb hrB heB hna hnb
 go_enter Tryz.func12,Tryz.ntmps12
 by_cases h0 : ea = 0
 ·subst h0
  have HE1':=HE1 rfl
  have HE2':=HE2 rfl
  clear HE0 HE1 HE2
  go_wp2_with fail
  refine HKC.out.mono ?_
  rintro e w2 ⟨rfl,hc2⟩
  have HC2 : Hid (Calm w w2):=hc2
  clear hc2
  by_cases h1 : eb = 0
  ·subst h1
   have HV:=HE2' rfl
   clear HE1' HE2'
   go_wp2_with fail
   refine (KC2.out w2 HC2.out).mono ?_
   rintro e w3 ⟨rfl,hc3⟩
   have HC3 : Hid (Calm w w3):=HC2.out.trans hc3
   clear hc3
   go_wp2_with fail
   go_loopw [12,41] (fun v u wr=>∃ (k : Nat) (out : List Reg) (zs : List NewG),k ≤ n ∧ u = .int .i64 k ∧ Hid (regsL (ofB ag) ((pz (za.take k) zb).map prE6) = some out) ∧ Hid (RowW w wr v out zs)) (fun _ u _=>n - (intOf u).toNat)
   case atStart=>exact ⟨0,[],[],Nat.zero_le _,rfl,rfl,RowW.nil HC3.out⟩
   case round=>
    obtain ⟨k,out,zs,hk,rfl,HT,HRo⟩:=hrel
    by_cases hlt : k < n
    ·have HCr : Hid (Calm w wr):=HRo.out.own.calm
     obtain ⟨b,o,x1,hA1,hb,hx1,c0,c1,c2,c3,c4⟩:=readE (HRd.out.1.calm HCr.out) (k:=k) (by rw [HLen.out.1];exact hlt)
     have HX1:=Lib.hid hx1
     obtain ⟨n1l,hn1l⟩ : ∃ n1l,x1.e.left.parts.length = n1l:=⟨_,rfl⟩
     obtain ⟨n1r,hn1r⟩ : ∃ n1r,x1.e.right.parts.length = n1r:=⟨_,rfl⟩
     obtain ⟨n1h,hn1h⟩ : ∃ n1h,x1.e.hs.length = n1h:=⟨_,rfl⟩
     obtain ⟨b1l,hb1l⟩ : ∃ b1l,x1.e.left.rest = b1l:=⟨_,rfl⟩
     obtain ⟨b1r,hb1r⟩ : ∃ b1r,x1.e.right.rest = b1r:=⟨_,rfl⟩
     rw [hn1l] at c0
     rw [hb1l] at c1
     rw [hn1r] at c2
     rw [hb1r] at c3
     rw [hn1h] at c4
     obtain ⟨wx,hwx⟩ : ∃ wx,wx = wr.alloc (.cells #[.slice x1.LA n1l x1.lc,.bool b1l,.slice x1.RA n1r x1.rc,.bool b1r,.slice x1.HA n1h x1.hc] 43):=⟨_,rfl⟩
     obtain ⟨B12,hB12⟩ : ∃ B12,wr.heap.size = B12:=⟨_,rfl⟩
     have hcx : Calm wr wx:=by
      show Below _ _ _
      rw [hwx]
      exact (Calm.refl _).alloc _
     have hf12 : FiveB wx B12 (.slice x1.LA n1l x1.lc) (.bool b1l) (.slice x1.RA n1r x1.rc) (.bool b1r) (.slice x1.HA n1h x1.hc):=by rw [hwx,← hB12];exact FiveB.new wr _ _ _ _ _ _
     have HIn : Hid (RowW w wx u12 out zs ∧ FiveB wx B12 (.slice x1.LA n1l x1.lc) (.bool b1l) (.slice x1.RA n1r x1.rc) (.bool b1r) (.slice x1.HA n1h x1.hc) ∧ some B12 ≠ u12.ownBlock):=⟨HRo.out.to hcx,hf12,fun e=>by have:=HRo.out.own.blk_lt e;omega⟩
     have HWx:=Lib.hid hwx
     have HB12:=Lib.hid hB12
     have HN1:=Lib.hid (And.intro hn1l (And.intro hb1l (And.intro hn1r (And.intro hb1r hn1h))))
     rw [hA1]
     clear hx1 hwx hB12 hcx hf12 hn1l hb1l hn1r hb1r hn1h
     go_upto_region 11 with (fail)
     rw [← HWx.out,HB12.out]
     clear c0 c1 c2 c3 c4 hb HB12
     go_wp2_with fail
     go_loopw [12,47] (fun v u wy=>∃ (j : Nat) (out2 : List Reg) (zs2 : List NewG),j ≤ n2 ∧ u = .int .i64 j ∧ Hid (regsL (ofB ag) ((pz (za.take k) zb ++ (zb.take j).map fun y=>(x1,y)).map prE6) = some out2) ∧ Hid (RowW w wy v out2 zs2 ∧ FiveB wy B12 (.slice x1.LA n1l x1.lc) (.bool b1l) (.slice x1.RA n1r x1.rc) (.bool b1r) (.slice x1.HA n1h x1.hc) ∧ some B12 ≠ v.ownBlock)) (fun _ u _=>n2 - (intOf u).toNat)
     case atStart=>exact ⟨0,out,zs,Nat.zero_le _,rfl,by show _ = _;simpa using HT.out,HIn.out⟩
     case round=>
      obtain ⟨j,out2,zs2,hj,rfl,HT2,HI2⟩:=hrel
      by_cases hlt2 : j < n2
      ·obtain ⟨b9,o9,x2,hA9,hb9,hx2,c0,c1,c2,c3,c4⟩:=readE (HRd.out.2.calm HI2.out.1.own.calm) (k:=j) (by rw [HLen.out.2.1];exact hlt2)
       have HX2:=Lib.hid hx2
       obtain ⟨n2l,hn2l⟩ : ∃ n2l,x2.e.left.parts.length = n2l:=⟨_,rfl⟩
       obtain ⟨n2r,hn2r⟩ : ∃ n2r,x2.e.right.parts.length = n2r:=⟨_,rfl⟩
       obtain ⟨n2h,hn2h⟩ : ∃ n2h,x2.e.hs.length = n2h:=⟨_,rfl⟩
       obtain ⟨b2l,hb2l⟩ : ∃ b2l,x2.e.left.rest = b2l:=⟨_,rfl⟩
       obtain ⟨b2r,hb2r⟩ : ∃ b2r,x2.e.right.rest = b2r:=⟨_,rfl⟩
       rw [hn2l] at c0
       rw [hb2l] at c1
       rw [hn2r] at c2
       rw [hb2r] at c3
       rw [hn2h] at c4
       obtain ⟨wy,rfl⟩ : ∃ wy,wy = wr:=⟨_,rfl⟩
       obtain ⟨wz,hwz⟩ : ∃ wz,wz = wy.alloc (.cells #[.slice x2.LA n2l x2.lc,.bool b2l,.slice x2.RA n2r x2.rc,.bool b2r,.slice x2.HA n2h x2.hc] 43):=⟨_,rfl⟩
       obtain ⟨B14,hB14⟩ : ∃ B14,wy.heap.size = B14:=⟨_,rfl⟩
       have hcz : Calm wy wz:=by
        show Below _ _ _
        rw [hwz]
        exact (Calm.refl _).alloc _
       have hf14 : FiveB wz B14 (.slice x2.LA n2l x2.lc) (.bool b2l) (.slice x2.RA n2r x2.rc) (.bool b2r) (.slice x2.HA n2h x2.hc):=by rw [hwz,← hB14];exact FiveB.new wy _ _ _ _ _ _
       have hf12 : FiveB wz B12 (.slice x1.LA n1l x1.lc) (.bool b1l) (.slice x1.RA n1r x1.rc) (.bool b1r) (.slice x1.HA n1h x1.hc):=HI2.out.2.1.calm hcz
       have hcw : Calm w wz:=HI2.out.1.own.calm.trans hcz
       have mz1 : x1 ∈ za:=List.mem_of_getElem? HX1.out
       have mz2 : x2 ∈ zb:=List.mem_of_getElem? hx2
       have m1 : x1.e ∈ es:=by rw [← HZ.out.1];exact List.mem_map.2 ⟨x1,mz1,rfl⟩
       have m2 : x2.e ∈ fs:=by rw [← HZ.out.2];exact List.mem_map.2 ⟨x2,mz2,rfl⟩
       have g1:=HV.out.1.good x1.e m1
       have g2:=HV.out.2.1.good x2.e m2
       have s1:=HSm.out.1 _ m1
       have s2:=HSm.out.2 _ m2
       have u1:=entA_few ((HEnt.out.1 x1 mz1).calm hcw) s1 g1.2
       have u2:=entA_few ((HEnt.out.2 x2 mz2).calm hcw) s2 g2.2
       have r1 : SmallR x1.e.rule:=⟨by have:=s1.lp;show x1.e.left.parts.length ≤ _;omega,fun s hs'=>by have:=s1.ls s hs';omega,by have:=s1.rp;show x1.e.right.parts.length ≤ _;omega,fun s hs'=>by have:=s1.rs s hs';omega⟩
       have r2 : SmallR x2.e.rule:=⟨by have:=s2.lp;show x2.e.left.parts.length ≤ _;omega,fun s hs'=>by have:=s2.ls s hs';omega,by have:=s2.rp;show x2.e.right.parts.length ≤ _;omega,fun s hs'=>by have:=s2.rs s hs';omega⟩
       have HOl : Hid (out2.length ≤ 1048576):=by
        have h1:=regsL_len HT2.out
        rw [List.length_map] at h1
        have h2:=(pz_part2 (za:=za) (zb:=zb) (k:=k) (j:=j) HX1.out).length_le
        rw [pz_len,HLen.out.1,HLen.out.2.1] at h2
        have h3:=HV.out.1.few
        have h4:=HV.out.2.1.few
        rw [HLen.out.2.2.1] at h3
        rw [HLen.out.2.2.2] at h4
        have h5 : n * n2 ≤ 32 * 32:=Nat.mul_le_mul h3 h4
        show out2.length ≤ _
        omega
       have HRet : Hid (ofB ag x1.e x2.e = none → regsE (ofB ag) es fs = ([],72)):=fun hno=>by
        refine HV.out.2.2.2 ?_
        rw [← HZ.out.1,← HZ.out.2]
        refine pr_stop6 (L:=(pz (za.take k) zb ++ (zb.take j).map fun y=>(x1,y)) ++ [(x1,x2)]) ?_ ?_
        ·rw [pz_snoc hx2]
         exact pz_part2 HX1.out
        ·have:=regsL_stop (f:=ofB ag) (pre:=(pz (za.take k) zb ++ (zb.take j).map fun y=>(x1,y)).map prE6) (post:=[]) (p:=(x1.e,x2.e)) hno
         rw [List.append_nil] at this
         rw [List.map_append]
         exact this
       have HGo : Hid (∀ o,ofB ag x1.e x2.e = some o → regsL (ofB ag) ((pz (za.take k) zb ++ (zb.take (j + 1)).map fun y=>(x1,y)).map prE6) = some (out2 ++ o.toList)):=fun o ho=>by
        rw [← pz_snoc hx2,List.map_append]
        exact regsL_step HT2.out ho
       have KLn1 : Hid (∀ X,Calls Tryz.prog 29 #[.agg #[.slice x1.LA n1l x1.lc,.bool b1l,.slice x1.RA n1r x1.rc,.bool b1r,.slice x1.HA n1h x1.hc]] X fun e w'=>e = .returned (.agg #[.bool false,.slice x1.LA n1l x1.lc,.bool b1l,.slice x1.RA n1r x1.rc,.bool b1r]) ∧ Calm X w'):=fun X=>rline_c _ _ _ _ _ _ _ _ _ _ _ X
       have KLn2 : Hid (∀ X,Calls Tryz.prog 29 #[.agg #[.slice x2.LA n2l x2.lc,.bool b2l,.slice x2.RA n2r x2.rc,.bool b2r,.slice x2.HA n2h x2.hc]] X fun e w'=>e = .returned (.agg #[.bool false,.slice x2.LA n2l x2.lc,.bool b2l,.slice x2.RA n2r x2.rc,.bool b2r]) ∧ Calm X w'):=fun X=>rline_c _ _ _ _ _ _ _ _ _ _ _ X
       have KMt : Hid (Calls Tryz.prog 39 #[.agg #[.slice x1.LA n1l x1.lc,.bool b1l],.agg #[.slice x2.LA n2l x2.lc,.bool b2l]] wz fun e w'=>(∃ Am nm cm rm okb,e = .returned (.tuple #[.agg #[.slice Am nm cm,.bool rm],.bool okb]) ∧ MtAny (meetP x1.e.left x2.e.left) w' wz.heap.size Am nm cm rm okb) ∧ Calm wz w'):=by
        rcases hmm : meetP x1.e.left x2.e.left with _ | m
        ·have:=rmeet_no x1.e.left x2.e.left x1.LA x2.LA x1.lc x2.lc wz u1.l u2.l (ruleErr_twin.1 g1.1).lp (ruleErr_twin.1 g2.1).lp hmm
         rw [HN1.out.1,HN1.out.2.1,hn2l,hb2l] at this
         exact this.mono fun e w' h=>⟨⟨none,0,0,false,false,h.1,.inl ⟨rfl,rfl⟩⟩,h.2⟩
        ·have:=rmeet_yes x1.e.left x2.e.left m x1.LA x2.LA x1.lc x2.lc wz u1.l u2.l (ruleErr_twin.1 g1.1).lp (ruleErr_twin.1 g2.1).lp hmm
         rw [HN1.out.1,HN1.out.2.1,hn2l,hb2l] at this
         exact this.mono fun e w' ⟨⟨A3,c3,h1,h2⟩,h3⟩=>⟨⟨A3,_,c3,_,true,h1,.inr ⟨m,rfl,rfl,rfl,rfl,h2⟩⟩,h3⟩
       obtain ⟨hs9,hhs9⟩ : ∃ hs9,x1.e.hs ++ x2.e.hs = hs9:=⟨_,rfl⟩
       have hl64 : n1h ≤ 64 ∧ n2h ≤ 64:=⟨by rw [← HN1.out.2.2.2.2];exact (gErr_zero g1.2).2.2,by rw [← hn2h];exact (gErr_zero g2.2).2.2⟩
       have HPq : Hid ((∀ p ∈ hs9,patErr p = 0) ∧ hs9.length = n1h + n2h):=⟨fun p hp=>by
        rw [← hhs9] at hp
        rcases List.mem_append.1 hp with hp | hp
        ·exact (gErr_zero g1.2).2.1 p hp
        ·exact (gErr_zero g2.2).2.1 p hp,by rw [← hhs9,List.length_append];have h1:=HN1.out.2.2.2.2;omega⟩
       obtain ⟨lx,hlx,hXp⟩:=u1.h.places
       obtain ⟨ly,hly,hYp⟩:=u2.h.places
       have HLx : Hid (lx.length = n1h ∧ lx.map (·.p) = x1.e.hs ∧ PatsX wz x1.HA lx):=⟨by rw [← HN1.out.2.2.2.2,← hlx,List.length_map],hlx,hXp⟩
       have HLy : Hid (ly.length = n2h ∧ ly.map (·.p) = x2.e.hs ∧ PatsX wz x2.HA ly):=⟨by rw [← hn2h,← hly,List.length_map],hly,hYp⟩
       have HPs0 : Hid (∀ (wv W : World) (A8 : Option Addr) (N8 c8 : Nat),Calm wz wv → Calm wv W → OwnX encP 2 40 wv W (.slice A8 N8 c8) (lx ++ ly) → PatsR W A8 hs9):=fun wv W A8 N8 c8 hv hW hown=>by
        have hEv : ∀ z ∈ lx ++ ly,PatA W z.A z.c z.p:=fun z hz=>by
         rcases List.mem_append.1 hz with h | h
         ·exact (HLx.out.2.2.each z h).calm (hv.trans hW)
         ·exact (HLy.out.2.2.each z h).calm (hv.trans hW)
        have hEl : (lx ++ ly).length ≤ 16384:=by rw [List.length_append,HLx.out.1,HLy.out.1];omega
        have hEm : (lx ++ ly).map (·.p) = hs9:=by rw [List.map_append,HLx.out.2.1,HLy.out.2.1,hhs9]
        have hrd:=own_readsR hown hEv hEl
        rw [hEm] at hrd
        exact hrd
       have HU:=Lib.hid (And.intro (And.intro u1 u2) (And.intro (And.intro r1 r2) (And.intro s1 s2)))
       have HGd:=Lib.hid (And.intro g1 g2)
       have HNh : Hid (x1.e.hs.length = n1h ∧ x2.e.left.parts.length = n2l ∧ x2.e.left.rest = b2l ∧ x2.e.right.parts.length = n2r ∧ x2.e.right.rest = b2r):=⟨HN1.out.2.2.2.2,hn2l,hb2l,hn2r,hb2r⟩
       have HFv:=Lib.hid (And.intro hf12 hf14)
       have HCw:=Lib.hid hcw
       have HCz:=Lib.hid hcz
       have HWz:=Lib.hid hwz
       have HB14:=Lib.hid hB14
       have HDg:=Lib.hid hhs9
       have a0:=hf12.c0
       have a1:=hf12.c1
       have d0:=hf14.c0
       have d1:=hf14.c1
       rw [hA9]
       rw [hwz] at a0 a1
       clear hx2 hwz hB14 hcz hf14 hf12 hcw mz1 mz2 m1 m2 g1 g2 s1 s2 u1 u2 r1 r2 hn2l hb2l hn2r hb2r hn2h hlx hXp hly hYp hhs9 d0 d1
       go_upto_region 14 with (fail)
       rw [← HWz.out,HB14.out]
       rw [← HWz.out] at a0 a1
       clear c0 c1 c2 c3 c4 hb9 HB14 HWz
       have d0:=HFv.out.2.c0
       have d1:=HFv.out.2.c1
       go_wp2_with fail
       refine KMt.out.mono ?_
       rintro e w3x ⟨⟨Am,nm,cm,rm,okm,rfl,hM⟩,hc3x⟩
       clear a0 a1 d0 d1
       obtain ⟨wm,hwm⟩ : ∃ wm,wm = w3x.alloc (.cells #[.slice Am nm cm,.bool rm] 40):=⟨_,rfl⟩
       obtain ⟨B17,hB17⟩ : ∃ B17,w3x.heap.size = B17:=⟨_,rfl⟩
       have hcm : Calm w3x wm:=by
        show Below _ _ _
        rw [hwm]
        exact (Calm.refl _).alloc _
       have HCm : Hid (Calm wz wm):=Calm.trans hc3x hcm
       have HTm : Hid (TwoB wm B17 (.slice Am nm cm) (.bool rm)):=by
        show TwoB _ _ _ _
        rw [hwm,← hB17]
        exact TwoB.new w3x _ _ _
       have HMa : Hid (MtAny (meetP x1.e.left x2.e.left) wm wz.heap.size Am nm cm rm okm):=hM.calm hcm
       have HWm : Hid (wm = w3x.alloc (.cells #[.slice Am nm cm,.bool rm] 40) ∧ w3x.heap.size = B17 ∧ Calm wz w3x):=⟨hwm,hB17,hc3x⟩
       clear hM hc3x hcm hwm hB17 KMt
       go_upto_if 59 with (fail)
       rw [← HWm.out.1,HWm.out.2.1]
       go_cut [18] (fun s wx=>∃ Ap np cp rp okb o,s = .bool okb ∧ Hid (BasAt wz wx B17 o Ap np cp rp okb ∧ baE ag x1.e x2.e = some o))
       case first=>
        cases ag with
        |false=>
         go_wp2_with fail
         go_meet
         case rel=>exact ⟨Am,nm,cm,rm,okm,_,rfl,⟨HCm.out,HTm.out,HMa.out⟩,rfl⟩
        |true=>
         have KAg : Hid (∀ X,Calm wm X → Calls Tryz.prog 40 #[.agg #[.bool false,.slice x1.LA n1l x1.lc,.bool b1l,.slice x1.RA n1r x1.rc,.bool b1r],.agg #[.bool false,.slice x2.LA n2l x2.lc,.bool b2l,.slice x2.RA n2r x2.rc,.bool b2r]] X fun e w'=>(∃ Ap np cp rp okb xe,e = .returned (.tuple #[.agg #[.slice Ap np cp,.bool rp],.bool okb,.int .i64 xe]) ∧ AgAny (agE x1.e.rule x2.e.rule) w' X.heap.size Ap np cp rp okb xe) ∧ Calm X w'):=fun X hX=>by
          have v1:=HU.out.1.1.calm (HCm.out.trans hX)
          have v2:=HU.out.1.2.calm (HCm.out.trans hX)
          have s1:=HU.out.2.2.1
          have s2:=HU.out.2.2.2
          have:=ragree_c x1.e.rule x2.e.rule x1.pl x2.pl X ⟨v1.l.r.toU,v1.r.r.toU,v1.l.room,v1.r.room,v1.l.cap,v1.r.cap⟩ HU.out.2.1.1 ⟨v2.l.r.toU,v2.r.r.toU,v2.l.room,v2.r.room,v2.l.cap,v2.r.cap⟩ HU.out.2.1.2 s1.ls s1.rs s2.ls s2.rs
          unfold ruleV Ent.rule NewE.pl at this
          simp only [HN1.out.1,HN1.out.2.1,HN1.out.2.2.1,HN1.out.2.2.2.1,HNh.out.2.1,HNh.out.2.2.1,HNh.out.2.2.2.1,HNh.out.2.2.2.2] at this
          exact this.mono fun e w' h=>⟨agAny_of h.1,h.2⟩
         have HS16 : Hid (∀ X,Calm wm X → Calm wm X ∧ X.cell? ⟨B12,0,none⟩ = some (.slice x1.LA n1l x1.lc) ∧ X.cell? ⟨B12,1,none⟩ = some (.bool b1l) ∧ X.cell? ⟨B12,2,none⟩ = some (.slice x1.RA n1r x1.rc) ∧ X.cell? ⟨B12,3,none⟩ = some (.bool b1r) ∧ X.cell? ⟨B12,4,none⟩ = some (.slice x1.HA n1h x1.hc) ∧ X.cell? ⟨B14,0,none⟩ = some (.slice x2.LA n2l x2.lc) ∧ X.cell? ⟨B14,1,none⟩ = some (.bool b2l) ∧ X.cell? ⟨B14,2,none⟩ = some (.slice x2.RA n2r x2.rc) ∧ X.cell? ⟨B14,3,none⟩ = some (.bool b2r) ∧ X.cell? ⟨B14,4,none⟩ = some (.slice x2.HA n2h x2.hc)):=fun X hX=>
          have a:=HFv.out.1.calm (HCm.out.trans hX)
          have b:=HFv.out.2.calm (HCm.out.trans hX)
          ⟨hX,a.c0,a.c1,a.c2,a.c3,a.c4,b.c0,b.c1,b.c2,b.c3,b.c4⟩
         go_wp2_with fail
         go_cut [19,20,21] (fun s t u wx=>∃ B19 Aq nq cq rq okq xe,s = .pointer (some ⟨B19,0,none⟩) ∧ t = .bool okq ∧ u = .int .i64 xe ∧ Hid (AgAt (agE x1.e.rule x2.e.rule) wm wx B19 Aq nq cq rq okq xe))
         case first=>
          clear HRet HGo HOl HU HGd HN1 HNh HFv HZ HRd HEnt HLen HSm HKC KC2 HC2 HC3 HV HT HRo HX1 HIn HWx HT2 HI2 HX2 HCw HCz hcn hcc hcn2 hcc2 hnn HLx HLy HPs0 HCm HTm HMa HWm HDg hl64
          refine wp_region_held_drew (S:=fun X=>Calm wm X ∧ X.cell? ⟨B12,0,none⟩ = some (.slice x1.LA n1l x1.lc) ∧ X.cell? ⟨B12,1,none⟩ = some (.bool b1l) ∧ X.cell? ⟨B12,2,none⟩ = some (.slice x1.RA n1r x1.rc) ∧ X.cell? ⟨B12,3,none⟩ = some (.bool b1r) ∧ X.cell? ⟨B12,4,none⟩ = some (.slice x1.HA n1h x1.hc) ∧ X.cell? ⟨B14,0,none⟩ = some (.slice x2.LA n2l x2.lc) ∧ X.cell? ⟨B14,1,none⟩ = some (.bool b2l) ∧ X.cell? ⟨B14,2,none⟩ = some (.slice x2.RA n2r x2.rc) ∧ X.cell? ⟨B14,3,none⟩ = some (.bool b2r) ∧ X.cell? ⟨B14,4,none⟩ = some (.slice x2.HA n2h x2.hc)) (by kernel_rfl) (HS16.out _ (Below.drew (Calm.refl _))) (fun hHeld=>?_)
          refine tk 0 rfl ?_
          try simp only [aP,Act.put]
          refine tk 2 rfl ?_
          try simp only [aP,Act.put]
          refine wpAnyH_ready (rs:=[1,9]) (by kernel_rfl) (by simp) ?_
          refine AllReadyH.cons rfl (fun K hK=>?_) (AllReadyH.cons rfl (fun K hK=>?_) AllReadyH.nil)
          go_simp
          refine (KLn1.out _).mono ?_
          rintro e wc0 ⟨rfl,hc0⟩
          refine hK.out _ _ ?_ (fun hN=>?_)
          ·exact HS16.out _ (hHeld.1.trans hc0)
          clear hK K hHeld
          have hHeld:=hN
          clear hN
          try simp only [aP,Act.put]
          rotate_left
          go_simp
          refine hK.out _ _ ?_ (fun hN=>?_)
          ·exact HS16.out _ (by first | exact hHeld.1.alloc _ | exact Below.drew ((Calm.refl _).alloc _))
          have hLo:=Nat.le_refl wm.heap.size
          have hZ : TwoB (wm.alloc (.cells #[.slice none 0 0,.bool false] 40)).drew wm.heap.size (.slice none 0 0) (.bool false):=(TwoB.new wm _ _ _).calm (Below.drew (Calm.refl _))
          clear hK K hHeld
          have hHeld:=hN
          clear hN
          try simp only [aP,Act.put]
          iterate 1
           refine wpAnyH_ready (rs:=[1]) (by kernel_rfl) (by simp) ?_
           refine AllReadyH.cons rfl (fun K hK=>?_) AllReadyH.nil
           go_simp
           refine (KLn1.out _).mono ?_
           rintro e wc0 ⟨rfl,hc0⟩
           refine hK.out _ _ ?_ (fun hN=>?_)
           ·exact HS16.out _ (hHeld.1.trans hc0)
           have hZ:=hZ.calm hc0
           clear hK K hHeld
           have hHeld:=hN
           clear hN
           try simp only [aP,Act.put]
           rotate_left
          refine wpAnyH_ready (rs:=[3,9]) (by kernel_rfl) (by simp) ?_
          refine AllReadyH.cons rfl (fun K hK=>?_) (AllReadyH.cons rfl (fun K hK=>?_) AllReadyH.nil)
          go_simp
          refine (KLn2.out _).mono ?_
          rintro e wc1 ⟨rfl,hc1⟩
          refine hK.out _ _ ?_ (fun hN=>?_)
          ·exact HS16.out _ (hHeld.1.trans hc1)
          clear hK K hHeld
          have hHeld:=hN
          clear hN
          try simp only [aP,Act.put]
          rotate_left
          go_simp
          refine hK.out _ _ ?_ (fun hN=>?_)
          ·exact HS16.out _ (by first | exact hHeld.1.alloc _ | exact Below.drew ((Calm.refl _).alloc _))
          have hPre : Calm wm wc0:=hHeld.1
          have hLo:=hPre.size
          have hZ : TwoB (wc0.alloc (.cells #[.slice none 0 0,.bool false] 40)) wc0.heap.size (.slice none 0 0) (.bool false):=TwoB.new wc0 _ _ _
          clear hK K hHeld
          have hHeld:=hN
          clear hN
          try simp only [aP,Act.put]
          iterate 2
           refine wpAnyH_ready (rs:=[3]) (by kernel_rfl) (by simp) ?_
           refine AllReadyH.cons rfl (fun K hK=>?_) AllReadyH.nil
           go_simp
           refine (KLn2.out _).mono ?_
           rintro e wc1 ⟨rfl,hc1⟩
           refine hK.out _ _ ?_ (fun hN=>?_)
           ·exact HS16.out _ (hHeld.1.trans hc1)
           have hZ:=hZ.calm hc1
           clear hK K hHeld
           have hHeld:=hN
           clear hN
           try simp only [aP,Act.put]
           rotate_left
          refine wpAnyH_ready (rs:=[4,9]) (by kernel_rfl) (by simp) ?_
          refine AllReadyH.cons rfl (fun K hK=>?_) (AllReadyH.cons rfl (fun K hK=>?_) AllReadyH.nil)
          go_simp
          refine (KAg.out _ hHeld.1).mono ?_
          rintro e wc2 ⟨⟨Aq,nq,cq,rq,okq,xe,rfl,hN2⟩,hc2⟩
          refine hK.out _ _ ?_ (fun hN=>?_)
          ·exact HS16.out _ (hHeld.1.trans hc2)
          have hP2:=hHeld.1.size
          clear hK K hHeld
          have hHeld:=hN
          clear hN
          try simp only [aP,Act.put]
          rotate_left
          go_simp
          refine hK.out _ _ ?_ (fun hN=>?_)
          ·exact HS16.out _ (by first | exact hHeld.1.alloc _ | exact Below.drew ((Calm.refl _).alloc _))
          have hPre : Calm wm wc1:=hHeld.1
          have hLo:=hPre.size
          have hZ : TwoB (wc1.alloc (.cells #[.slice none 0 0,.bool false] 40)) wc1.heap.size (.slice none 0 0) (.bool false):=TwoB.new wc1 _ _ _
          clear hK K hHeld
          have hHeld:=hN
          clear hN
          try simp only [aP,Act.put]
          iterate 3
           refine wpAnyH_ready (rs:=[4]) (by kernel_rfl) (by simp) ?_
           refine AllReadyH.cons rfl (fun K hK=>?_) AllReadyH.nil
           go_simp
           refine (KAg.out _ hHeld.1).mono ?_
           rintro e wc2 ⟨⟨Aq,nq,cq,rq,okq,xe,rfl,hN2⟩,hc2⟩
           refine hK.out _ _ ?_ (fun hN=>?_)
           ·exact HS16.out _ (hHeld.1.trans hc2)
           have hP2:=hHeld.1.size
           have hbP:=hZ.lt
           have hZ:=hZ.calm hc2
           clear hK K hHeld
           have hHeld:=hN
           clear hN
           try simp only [aP,Act.put]
           rotate_left
          iterate 4
           refine tk 5 rfl ?_
           try simp only [aP,Act.put]
           refine tk 6 rfl ?_
           try simp only [aP,Act.put]
           refine tk 7 rfl ?_
           try simp only [aP,Act.put]
           refine tk 8 rfl ?_
           try simp only [aP,Act.put]
           rotate_left
          refine wpAnyH_ready (rs:=[9]) (by kernel_rfl) (by simp) ?_
          refine AllReadyH.cons rfl (fun K hK=>?_) AllReadyH.nil
          go_simp
          refine hK.out _ _ ?_ (fun hN=>?_)
          ·exact HS16.out _ (by first | exact hHeld.1.alloc _ | exact Below.drew ((Calm.refl _).alloc _))
          have hPre : Calm wm wc2:=hHeld.1
          have hLo:=hPre.size
          have hZ : TwoB (wc2.alloc (.cells #[.slice none 0 0,.bool false] 40)) wc2.heap.size (.slice none 0 0) (.bool false):=TwoB.new wc2 _ _ _
          clear hK K hHeld
          have hHeld:=hN
          clear hN
          try simp only [aP,Act.put]
          iterate 4
           have z:=hZ
           obtain ⟨-,z0,z1,f⟩:=z
           have f0:=f 0
           have f1:=f 1
           refine wpAnyH_ready (rs:=[10]) (by kernel_rfl) (by simp) ?_
           refine AllReadyH.cons rfl (fun K hK=>?_) AllReadyH.nil
           go_simp
           refine hK.out _ _ ?_ (fun hN=>?_)
           ·first
             |exact HS16.out _ (calm2b hHeld.1 hLo _ _)
             |exact HS16.out _ (hPre.alloc _)
           clear hK K
           try simp only [aP,Act.put]
           refine tk 11 rfl ?_
           try simp only [aP,Act.put]
           refine tk 12 rfl ?_
           try simp only [aP,Act.put]
           refine wpAnyH_done (by kernel_rfl) ?_ _
           go_wp2_with fail
           go_meet
           case rel=>
            first
             |(refine ⟨_,Aq,nq,cq,rq,okq,xe,rfl,rfl,rfl,Lib.hid ?_⟩;with_reducible exact agAt_new hPre hP2 hN2)
             |(refine ⟨_,Aq,nq,cq,rq,okq,xe,rfl,rfl,rfl,Lib.hid ?_⟩;with_reducible exact agAt_set hZ hHeld.1 hLo hbP hP2 hN2)
         case rest=>
          obtain ⟨B19,Aq,nq,cq,rq,okq,xe,rfl,rfl,rfl,HA⟩:=hcut
          obtain ⟨wa,rfl⟩ : ∃ wa,wa = wc:=⟨_,rfl⟩
          clear KAg HS16
          have HCa : Hid (Calm wz wa):=HCm.out.trans HA.out.calm
          have q0:=HA.out.two.c0
          have q1:=HA.out.two.c1
          have hT17:=HTm.out.calm HA.out.calm
          have p0:=hT17.c0
          have p1:=hT17.c1
          have f0:=hT17.fz 0
          have f1:=hT17.fz 1
          have HT17:=Lib.hid hT17
          have HB17 : Hid (wz.heap.size ≤ B17 ∧ B17 < wm.heap.size):=⟨by rw [← HWm.out.2.1];exact HWm.out.2.2.size,HTm.out.lt⟩
          clear hT17
          rcases HA.out.any with ⟨ho,rfl,rfl⟩ | ⟨p,ho,rfl,rfl,hpl,hpr,hSm⟩
          ·by_cases hx0 : (agE x1.e.rule x2.e.rule).2 = 0
           ·have HBa : Hid (baE true x1.e x2.e = some none):=by
             show _ = _
             unfold baE
             simp only [if_true]
             rw [if_neg (by simpa using hx0),ho]
            rw [hx0]
            clear ho hx0
            go_wp2_with fail
            go_meet
            case rel=>exact ⟨Aq,nq,cq,rq,false,none,rfl,basAt_set HT17.out HCa.out HB17.out.1 HB17.out.2 (.inl ⟨rfl,rfl⟩),HBa.out⟩
           ·have HNo : Hid (regsE (ofB true) es fs = ([],72)):=HRet.out (ofB_none (by
             unfold baE
             simp only [if_true]
             rw [if_pos hx0]))
            obtain ⟨xe,hxe⟩ : ∃ xe,(agE x1.e.rule x2.e.rule).2 = xe:=⟨_,rfl⟩
            rw [hxe] at hx0 ⊢
            have hb : (xe != 0) = true:=by simpa using hx0
            clear ho hx0 hxe
            go_wp2_with fail
            go_ret2
            exact ⟨by rw [HNo.out];exact regOutR_err _ _,HCw.out.trans HCa.out⟩
          ·have HBa : Hid (baE true x1.e x2.e = some (some p)):=by
            show _ = _
            unfold baE
            simp only [if_true]
            rw [if_neg (by rw [ho];simp),ho]
           have HMq : Hid (MtAny (some p) wa wm.heap.size Aq nq cq rq true):=.inr ⟨p,rfl,rfl,hpl,hpr,hSm⟩
           clear ho hpl hpr hSm
           go_wp2_with fail
           go_meet
           case rel=>exact ⟨Aq,nq,cq,rq,true,some p,rfl,basAt_set HT17.out HCa.out HB17.out.1 HB17.out.2 HMq.out,HBa.out⟩
       case rest=>
        obtain ⟨Ap,np,cp,rp,okb,o,rfl,HB⟩:=hcut
        obtain ⟨wv,rfl⟩ : ∃ wv,wv = wc:=⟨_,rfl⟩
        have HPs : Hid (∀ (W : World) (A8 : Option Addr) (N8 c8 : Nat),Calm wv W → OwnX encP 2 40 wv W (.slice A8 N8 c8) (lx ++ ly) → PatsR W A8 hs9):=fun W A8 N8 c8 hW hown=>HPs0.out wv W A8 N8 c8 HB.out.1.calm hW hown
        clear HPs0 KLn1 KLn2 HMa HTm HCm HWm
        rcases HB.out.1.any with ⟨ho,rfl⟩ | ⟨p,ho,rfl,hpl,hpr,hSm⟩
        ·subst ho
         have HCv : Hid (Calm wz wv):=HB.out.1.calm
         have HG2:=Lib.hid (HGo.out none (ofB_some HB.out.2))
         go_wp2_with fail
         go_roundw
         case rel=>exact ⟨j + 1,out2,zs2,by omega,by go_num,by have:=HG2.out;rw [Option.toList_none,List.append_nil] at this;exact this,HI2.out.1.to (HCz.out.trans HCv.out),HFv.out.1.calm HCv.out,HI2.out.2.2⟩
         case measure=>simp [intOf];omega
        ·subst ho
         have HOf : Hid (ofB ag x1.e x2.e = redG p hs9):=by
          show _ = _
          rw [ofB_some HB.out.2,HDg.out]
          rfl
         have HP : Hid (PatA wv Ap cp p ∧ p.parts.length = np ∧ p.rest = rp ∧ patErr p = 0):=⟨hSm.a,hpl,hpr,baE_pat HGd.out.1.1 HGd.out.2.1 HB.out.2⟩
         have HSm9 : Hid (SmallN wv w.heap.size ⟨Ap,cp,p⟩):=smallN_mono hSm HCw.out.size
         have HCv : Hid (Calm wz wv):=HB.out.1.calm
         obtain ⟨gs,hgs⟩ : ∃ gs,redL p hs9 = gs:=⟨_,rfl⟩
         obtain ⟨gm,hgm⟩ : ∃ gm,gs.length = gm:=⟨_,rfl⟩
         obtain ⟨L0,hL0⟩ : ∃ L0,leastLen p gs = L0:=⟨_,rfl⟩
         have hgml : gm ≤ 200:=by
          have h1:=redL_len p hs9
          have h2:=HPq.out.2
          rw [hgs,hgm] at h1
          omega
         have KS : Hid (∀ W A8 c8,Calm wv W → PatsR W A8 hs9 → Calls Tryz.prog 41 #[.agg #[.slice Ap np cp,.bool rp],.slice A8 (n1h + n2h) c8] W fun e w'=>(∃ KA kc,e = .returned (.agg #[.slice Ap np cp,.bool rp,.slice KA gm kc]) ∧ PatsN w' W.heap.size KA kc gs) ∧ Calm W w'):=fun W A8 c8 hW hP8=>by
          have:=rsimp_c p hs9 Ap cp A8 (n1h + n2h) c8 W (HP.out.1.calm hW) hP8 HPq.out.2 HP.out.2.2.2 HPq.out.1
          unfold RSEnd at this
          rw [HP.out.2.1,HP.out.2.2.1,hgs,hgm] at this
          exact this
         have KLn : Hid (∀ W KA kc,Calm wv W → PatsR W KA gs → Calls Tryz.prog 42 #[.agg #[.slice Ap np cp,.bool rp,.slice KA gm kc]] W fun e w'=>e = .returned (.int .i64 L0) ∧ Calm W w'):=fun W KA kc hW hP=>
          rlenp_v p gs L0 np gm rp Ap cp KA kc W (HP.out.1.calm hW).r hP HP.out.2.2.2 (fun q hq=>by rw [← hgs] at hq;exact redL_good q hq) hL0 HP.out.2.1 hgm HP.out.2.2.1
         have HR0 : 64 < gm → Hid (ofB ag x1.e x2.e = none):=fun h=>by
          show _ = _
          rw [HOf.out]
          unfold redG
          rw [hgs,hgm,if_pos h]
         have HR1 : ¬ 64 < gm → L0 = 0 → Hid (ofB ag x1.e x2.e = some none):=fun h h2=>by
          show _ = _
          rw [HOf.out]
          unfold redG
          rw [hgs,hgm,if_neg h,hL0,if_pos h2]
         have HR2 : ¬ 64 < gm → L0 ≠ 0 → Hid (ofB ag x1.e x2.e = some (some ⟨p,gs⟩)):=fun h h2=>by
          show _ = _
          rw [HOf.out]
          unfold redG
          rw [hgs,hgm,if_neg h,hL0,if_neg h2]
         have HGm : Hid (gs.length = gm ∧ gs.length ≤ 16384):=⟨hgm,by rw [hgm];omega⟩
         have HSX : Hid (∀ W,Calm wv W → W.cell? ⟨B17,0,none⟩ = some (.slice Ap np cp) ∧ W.cell? ⟨B17,1,none⟩ = some (.bool rp) ∧ W.cell? ⟨B12,4,none⟩ = some (.slice x1.HA n1h x1.hc) ∧ W.cell? ⟨B14,4,none⟩ = some (.slice x2.HA n2h x2.hc)):=fun W hW=>
          have a:=HFv.out.1.calm (HCv.out.trans hW)
          have b:=HFv.out.2.calm (HCv.out.trans hW)
          have d:=HB.out.1.two.calm hW
          ⟨d.c0,d.c1,a.c4,b.c4⟩
         clear hpl hpr hSm hgs hgm hL0 HOf
         go_upto_region 21 with (fail)
         go_cut [22] (fun s wx=>∃ B22 KA kc,s = .pointer (some ⟨B22,0,none⟩) ∧ Hid (SmpAt wv wx B22 (.slice Ap np cp) (.bool rp) KA gm kc gs))
         case first=>
          go_region_held3 (fun W=>W.cell? ⟨B17,0,none⟩ = some (.slice Ap np cp) ∧ W.cell? ⟨B17,1,none⟩ = some (.bool rp) ∧ W.cell? ⟨B12,4,none⟩ = some (.slice x1.HA n1h x1.hc) ∧ W.cell? ⟨B14,4,none⟩ = some (.slice x2.HA n2h x2.hc))
           (first
            |with_reducible exact HSX.out _ (calm3' hcz hcy.size _ _ _)
            |with_reducible exact HSX.out _ (calm3' hcz hcx.size _ _ _)
            |with_reducible exact HSX.out _ (calm3' hcz (Nat.le_refl _) _ _ _)
            |with_reducible exact HSX.out _ hcz
            |with_reducible exact HSX.out _ (hcz.alloc _)
            |with_reducible exact HSX.out _ hcy
            |with_reducible exact HSX.out _ (hcy.alloc _)
            |with_reducible exact HSX.out _ hcx
            |with_reducible exact HSX.out _ (hcx.alloc _)
            |with_reducible exact HSX.out _ (Calm.refl _)
            |with_reducible exact HSX.out _ (Below.drew (Calm.refl _))
            |with_reducible exact HSX.out _ (Below.drew ((Calm.refl _).alloc _))
            |with_reducible exact HSX.out _ ((Calm.refl _).alloc _)
            |go_keep)
           (first
            |(refine step_append_ps rfl _ (.tmp 77) rfl wv (.slice none 0 0) [] lx (by simp [Act.eval,Act.put]) (OwnX.nil (by first | exact Below.drew (Calm.refl _) | exact Below.drew ((Calm.refl _).alloc _))) x1.HA n1h x1.hc (by simp [Act.eval,Act.put]) HLx.out.1 (HLx.out.2.2.read.calm (HCv.out.trans (by first | exact Below.drew (Calm.refl _) | exact Below.drew ((Calm.refl _).alloc _)))) (by simp;omega) ?_;intro v6 w6 hown6 hgr6;rw [List.nil_append] at hown6;obtain ⟨A6,c6,hv6⟩:=hown6.len_shape;rw [HLx.out.1] at hv6;subst hv6;have hcx : Calm wv w6:=hown6.calm;(first | have hZ6 : RgB w6 wv.heap.size (.slice none 0 0) (.bool false) (.slice none 0 0):=RgB.own (RgB.calm (RgB.new wv _ _ _) (Below.drew (Calm.refl _))) (OwnX.nil (enc:=encP) (K:=2) (T:=40) (Below.drew ((Calm.refl wv).alloc _))) hgr6 | skip))
            |(refine step_append_ps rfl (.tmp 78) (.tmp 80) rfl wv (.slice A6 n1h c6) lx ly (by simp [Act.eval,Act.put]) (hown6.to (by first | exact Calm.refl _ | exact (Calm.refl _).alloc _)) x2.HA n2h x2.hc (by simp [Act.eval,Act.put]) HLy.out.1 (HLy.out.2.2.read.calm (HCv.out.trans (hcx.trans (by first | exact Calm.refl _ | exact (Calm.refl _).alloc _)))) (by rw [HLx.out.1];omega) ?_;intro v8 w8 hown8 hgr8;obtain ⟨A8,c8,hv8⟩:=hown8.len_shape;rw [List.length_append,HLx.out.1,HLy.out.1] at hv8;subst hv8;have hcy : Calm wv w8:=hown8.calm;(first | have hZ8 : RgB w8 w6.heap.size (.slice none 0 0) (.bool false) (.slice none 0 0):=RgB.own (RgB.new w6 _ _ _) (hown6.to ((Calm.refl w6).alloc _)) hgr8 | have hZ8 : RgB w8 wv.heap.size (.slice none 0 0) (.bool false) (.slice none 0 0):=RgB.own hZ6 hown6 hgr8 | skip);have hP8 : PatsR w8 A8 hs9:=HPs.out _ _ _ _ hcy hown8)
            |(go_at_call 41;refine (KS.out _ A8 c8 (hcy.trans (by first | exact Calm.refl _ | exact (Calm.refl _).alloc _)) (hP8.calm (by first | exact Calm.refl _ | exact (Calm.refl _).alloc _))).mono ?_;rintro e w9 ⟨⟨KA,kc,rfl,hPn⟩,hc9⟩;have hcz : Calm wv w9:=Calm.trans (hcy.trans (by first | exact Calm.refl _ | exact (Calm.refl _).alloc _)) hc9;(first | have hZ9:=RgB.calm hZ8 hc9 | have hZ9 : RgB w9 w8.heap.size (.slice none 0 0) (.bool false) (.slice none 0 0):=RgB.calm (RgB.new w8 _ _ _) hc9 | skip);try (have z0:=hZ9.c0;have z1:=hZ9.c1;have z2:=hZ9.c2;have f0:=hZ9.f 0;have f1:=hZ9.f 1;have f2:=hZ9.f 2)))
          all_goals
           have hs6:=hcx.size
           have hs8:=hcy.size
           try have hlt8:=hZ8.lt
           go_wp2_with fail
           go_meet
           case rel=>
            first
             |exact ⟨_,KA,kc,rfl,smpAt_new hcz (by first | exact hs8 | (simp;omega)) hPn⟩
             |exact ⟨_,KA,kc,rfl,smpAt_set hZ9 hcz (by omega) (by first | omega | simp) (by first | exact hs8 | (simp;omega)) hPn⟩
         case rest=>
          obtain ⟨B22,KA,kc,rfl,HSp⟩:=hcut
          obtain ⟨ws,rfl⟩ : ∃ ws,ws = wc:=⟨_,rfl⟩
          have HCs : Hid (Calm wz ws):=HCv.out.trans HSp.out.calm
          have e2:=HSp.out.box.c2
          clear KS HSX
          by_cases h64 : 64 < gm
          ·have h64i : (64 : Int) < (gm : Int):=by omega
           have HNo:=Lib.hid (HRet.out (HR0 h64).out)
           clear HR0 HR1 HR2
           go_wp2_with fail
           go_ret2
           exact ⟨by rw [HNo.out];exact regOutR_err _ _,HCw.out.trans HCs.out⟩
          ·have h64i : ¬ (64 : Int) < (gm : Int):=by omega
           have HR1':=HR1 h64
           have HR2':=HR2 h64
           have e0:=HSp.out.box.c0
           have e1:=HSp.out.box.c1
           clear HR0 HR1 HR2
           go_wp2_with fail
           refine (KLn.out ws KA kc HSp.out.calm (HSp.out.holes.reads HGm.out.2)).mono ?_
           rintro e w5 ⟨rfl,hc5⟩
           have HC5 : Hid (Calm wz w5):=HCs.out.trans hc5
           have HCs5 : Hid (Calm ws w5):=hc5
           clear e0 e1 e2
           by_cases hz0 : L0 = 0
           ·subst hz0
            have HG2:=Lib.hid (HGo.out none (HR1' rfl).out)
            clear hc5 HR1' HR2'
            go_wp2_with fail
            go_roundw
            case rel=>exact ⟨j + 1,out2,zs2,by omega,by go_num,by have:=HG2.out;rw [Option.toList_none,List.append_nil] at this;exact this,HI2.out.1.to (HCz.out.trans HC5.out),HFv.out.1.calm HC5.out,HI2.out.2.2⟩
            case measure=>simp [intOf];omega
           ·have HG2:=Lib.hid (HGo.out (some ⟨p,gs⟩) (HR2' hz0).out)
            have hzp : (0 : Int) < (L0 : Int):=by omega
            have hg5:=HSp.out.box.calm hc5
            have e0:=hg5.c0
            have e1:=hg5.c1
            have e2:=hg5.c2
            have HV5 : Hid (GrV w w5 ⟨Ap,cp,KA,kc,⟨p,gs⟩⟩):=⟨.inr (HSm9.out.calm (HSp.out.calm.trans hc5)),(HSp.out.holes.calm hc5).mono (by have:=HCw.out.size;have:=HCv.out.size;omega),HGm.out.2⟩
            have HNn : Hid (p.parts.length = np ∧ p.rest = rp ∧ gs.length = gm):=⟨HP.out.2.1,HP.out.2.2.1,HGm.out.1⟩
            have hzl : zs2.length + 1 ≤ 2000000:=by rw [HI2.out.1.len];have:=HOl.out;omega
            clear hc5 hg5 hz0 HR1' HR2'
            go_wp2_with (at_builtin;refine wpList_append_xf (enc:=encG) (K:=3) (T:=68) Tryz.underlying29 info_reg rfl (by decide) (by decide) encG_len encG_one rfl (.tmp 90) (.tmp 92) rfl w u12 zs2 [⟨Ap,cp,KA,kc,⟨p,gs⟩⟩] rfl (HI2.out.1.own.to ((HCz.out.trans HC5.out).alloc _)) _ 1 1 rfl rfl (read_newN ⟨Ap,cp,KA,kc,⟨p,gs⟩⟩ HNn.out.1 HNn.out.2.1 HNn.out.2.2 rfl) (by omega) ?_;intro v9 w9 hown9 hg9 hfr9)
            have HRel : Hid (RowW w w9 v9 (out2 ++ [⟨p,gs⟩]) (zs2 ++ [⟨Ap,cp,KA,kc,⟨p,gs⟩⟩])):=HI2.out.1.add ((HCz.out.trans HC5.out).alloc _) (HV5.out.calm ((Calm.refl _).alloc _)) hg9 hown9
            have hF5:=(HFv.out.1.calm HC5.out).calm ((Calm.refl w5).alloc (.cells #[.slice Ap np cp,.bool rp,.slice KA gm kc] 68))
            have HF12:=Lib.hid (And.intro (five_grown hF5 hg9 HI2.out.2.2 hg9.size) (fresh_ne hfr9 HI2.out.2.2 hF5.lt))
            clear hF5 hg9 hfr9
            go_roundw
            case rel=>exact ⟨j + 1,out2 ++ [(⟨p,gs⟩ : Reg)],_,by omega,by go_num,by have:=HG2.out;exact this,HRel.out,HF12.out⟩
            case measure=>simp [intOf];omega
      ·obtain rfl : j = n2:=by omega
       go_wp2_with fail
       go_roundw
       case rel=>exact ⟨k + 1,out2,zs2,by omega,by go_num,by show _ = _;rw [pz_take HX1.out];have:=HT2.out;rw [List.take_of_length_le (l:=zb) (by rw [HLen.out.2.1];exact Nat.le_refl _)] at this;exact this,HI2.out.1⟩
       case measure=>simp [intOf];omega
    ·obtain rfl : k = n:=by omega
     have hfin : regsL (ofB ag) (pairsL es fs) = some out:=by
      rw [← HZ.out.1,← HZ.out.2,← pz_pr6]
      have:=HT.out
      rw [List.take_of_length_le (l:=za) (by rw [HLen.out.1];exact Nat.le_refl _)] at this
      exact this
     have HFin:=Lib.hid (HV.out.2.2.1 out hfin)
     obtain ⟨A9,c9,rfl,r1,r2,r3⟩:=HRo.out.reads
     have HR:=Lib.hid (And.intro r1 (And.intro r2 r3))
     have HCr : Hid (Calm w wr):=HRo.out.own.calm
     obtain ⟨L9,hL9⟩ : ∃ L9,out.length = L9:=⟨_,rfl⟩
     have HL9:=Lib.hid hL9
     rw [hL9] at HFin ⊢
     clear r1 r2 r3 hL9 hfin
     by_cases h32 : 32 < L9
     ·have h32i : (32 : Int) < (L9 : Int):=by omega
      rw [if_pos h32] at HFin
      go_wp2_with fail
      go_ret2
      exact ⟨by rw [HFin.out];exact regOutR_err _ _,HCr.out⟩
     ·have h32i : ¬ (32 : Int) < (L9 : Int):=by omega
      rw [if_neg h32] at HFin
      go_wp2_with fail
      go_ret2
      exact ⟨by rw [HFin.out];exact ⟨A9,c9,by rw [HL9.out];rfl,HR.out.1,HR.out.2⟩,HCr.out⟩
  ·have HV:=HE1' h1
   have hb : (eb != 0) = true:=by simpa using h1
   clear HE1' HE2' h1
   go_wp2_with fail
   refine (KC2.out w2 HC2.out).mono ?_
   rintro e w3 ⟨rfl,hc3⟩
   have HC3 : Hid (Calm w w3):=HC2.out.trans hc3
   clear hc3
   go_wp2_with fail
   go_ret2
   exact ⟨by rw [HV.out];exact regOutR_err _ _,HC3.out⟩
 ·have HV:=HE0 h0
  have hb : (ea != 0) = true:=by simpa using h0
  clear HE0 HE1 HE2 h0
  go_wp2_with fail
  refine HKC.out.mono ?_
  rintro e w2 ⟨rfl,hc2⟩
  have HC2 : Hid (Calm w w2):=hc2
  clear hc2
  go_wp2_with fail
  go_ret2
  exact ⟨by rw [HV.out];exact regOutR_err _ _,HC2.out⟩
end Go.Proofs.YtnlnclefedohkaaGreatDoor
