/- Walk: the reference's Compose. -/
import Derived.Test.YtnlnclefedohkaaGreatDoorZComP
import Derived.Test.YtnlnclefedohkaaGreatDoorZRAddF
import Derived.Test.YtnlnclefedohkaaGreatDoorZRChainW
import Derived.Test.YtnlnclefedohkaaGreatDoorZRNarRW
import Derived.Test.YtnlnclefedohkaaGreatDoorZRMChk
set_option linter.unusedVariables false
set_option linter.unusedSimpArgs false
namespace Go.Proofs.YtnlnclefedohkaaGreatDoor
open Go Go.RowKit Sy

def prE (p : NewE × NewE) : Ent × Ent:=(p.1.e,p.2.e)
theorem pz_pr (za zb : List NewE) : (pz za zb).map prE = pairsL (za.map (·.e)) (zb.map (·.e)):=by
 unfold pz pairsL
 rw [List.map_flatMap,List.flatMap_map]
 congr 1
 funext x
 rw [List.map_map,List.map_map]
 rfl
theorem pr_stop {za zb : List NewE} {L : List (NewE × NewE)} (h : L <+: pz za zb) (hc : comL (L.map prE) = none) : comL (pairsL (za.map (·.e)) (zb.map (·.e))) = none:=by
 obtain ⟨t,ht⟩:=h
 rw [← pz_pr,← ht,List.map_append,comL_app,hc]
theorem comL_len {L : List (Ent × Ent)} {out : List Ent} (h : comL L = some out) : out.length ≤ L.length:=by
 rw [(comL_mem h).2]
 exact List.length_filterMap_le _ _
set_option maxRecDepth 100000 in
set_option maxHeartbeats 40000000 in
theorem rcom_c (es fs : List Ent) (n c n2 c2 : Nat) (A A2 : Option Addr) (w : World) (h : EntsA w A es) (hcn : n ≤ c) (hcc : c ≤ 9223372036854775807) (hn : es.length = n) (hs : ∀ x ∈ es,SmallE x) (h2 : EntsA w A2 fs) (hcn2 : n2 ≤ c2) (hcc2 : c2 ≤ 9223372036854775807) (hn2 : fs.length = n2) (hs2 : ∀ x ∈ fs,SmallE x) :
  Calls Tryz.prog 9 #[.slice A n c,.slice A2 n2 c2] w fun e w'=>EntOutR (comE es fs).1 (comE es fs).2 e w' ∧ Calm w w':=by
 obtain ⟨ea,hea⟩ : ∃ ea,(mapE es).2 = ea:=⟨_,rfl⟩
 obtain ⟨ia,hia⟩ : ∃ ia,(mapE es).1 = ia:=⟨_,rfl⟩
 obtain ⟨eb,heb⟩ : ∃ eb,(mapE fs).2 = eb:=⟨_,rfl⟩
 obtain ⟨ib,hib⟩ : ∃ ib,(mapE fs).1 = ib:=⟨_,rfl⟩
 have KC1:=rmchk_c es n c A w h hcn hcc hs hn
 rw [hea,hia] at KC1
 have KC2 : Hid (∀ W,Calm w W → Calls Tryz.prog 27 #[.slice A2 n2 c2] W fun e w'=>e = .returned (.tuple #[.int .i64 (ib : Nat),.int .i64 eb]) ∧ Calm W w'):=fun W hW=>by
  have:=rmchk_c fs n2 c2 A2 W (h2.calm hW) hcn2 hcc2 hs2 hn2
  rw [heb,hib] at this
  exact this
 have HE0 : ea ≠ 0 → Hid (comE es fs = ([],ea)):=fun h0=>by
  show comE es fs = _
  unfold comE
  rw [hea,if_pos h0]
 have HE1 : ea = 0 → eb ≠ 0 → Hid (comE es fs = ([],eb)):=fun h0 h1=>by
  show comE es fs = _
  unfold comE
  rw [hea,if_neg (by simpa using h0),heb,if_pos h1]
 have HE2 : ea = 0 → eb = 0 → Hid (Mapping es ∧ Mapping fs ∧ (∀ out,comL (pairsL es fs) = some out → comE es fs = if 32 < out.length then ([],72) else (out,0)) ∧ (comL (pairsL es fs) = none → comE es fs = ([],72))):=fun h0 h1=>by
  refine ⟨(mapE_zero (hea.trans h0)).1,(mapE_zero (heb.trans h1)).1,fun out ho=>?_,fun ho=>?_⟩
  ·unfold comE
   rw [hea,if_neg (by simpa using h0),heb,if_neg (by simpa using h1),ho]
  ·unfold comE
   rw [hea,if_neg (by simpa using h0),heb,if_neg (by simpa using h1),ho]
 obtain ⟨hl1,za,hza,hrA,heA⟩:=h
 obtain ⟨hl2,zb,hzb,hrB,heB⟩:=h2
 have hna : za.length = n:=by rw [← hn,← hza,List.length_map]
 have hnb : zb.length = n2:=by rw [← hn2,← hzb,List.length_map]
 have HZ:=Lib.hid (And.intro hza hzb)
 have HRd:=Lib.hid (And.intro hrA hrB)
 have HEnt:=Lib.hid (And.intro heA heB)
 have HLen:=Lib.hid (And.intro hna (And.intro hnb (And.intro hn hn2)))
 have HSm:=Lib.hid (And.intro hs hs2)
 have HKC:=Lib.hid KC1
 have hnn : n ≤ 1048576 ∧ n2 ≤ 1048576:=⟨by omega,by omega⟩
 clear hn hs hn2 hs2 hea hia heb hib KC1 hl1 hl2 hza hrA heA hzb hrB heB hna hnb
 go_enter Tryz.func9,Tryz.ntmps9
 by_cases h0 : ea = 0
 ·subst h0
  have HE1':=HE1 rfl
  have HE2':=HE2 rfl
  clear HE0 HE1 HE2
  go_wp2_with fail
  refine HKC.out.mono ?_
  rintro e w2 ⟨rfl,hc2⟩
  have HC2 : Hid (Calm w w2):=hc2
  clear hc2
  by_cases h1 : eb = 0
  ·subst h1
   have HV:=HE2' rfl
   clear HE1' HE2'
   go_wp2_with fail
   refine (KC2.out w2 HC2.out).mono ?_
   rintro e w3 ⟨rfl,hc3⟩
   have HC3 : Hid (Calm w w3):=HC2.out.trans hc3
   clear hc3
   go_wp2_with fail
   go_loopw [10,42] (fun v u wr=>∃ (k : Nat) (out : List Ent) (zs : List NewE),k ≤ n ∧ u = .int .i64 k ∧ Hid (comL ((pz (za.take k) zb).map prE) = some out) ∧ Hid (RowV w wr v out zs)) (fun _ u _=>n - (intOf u).toNat)
   case atStart=>exact ⟨0,[],[],Nat.zero_le _,rfl,rfl,RowV.nil HC3.out⟩
   case round=>
    obtain ⟨k,out,zs,hk,rfl,HT,HRo⟩:=hrel
    by_cases hlt : k < n
    ·have HCr : Hid (Calm w wr):=HRo.out.own.calm
     obtain ⟨b,o,x1,hA1,hb,hx1,c0,c1,c2,c3,c4⟩:=readE (HRd.out.1.calm HCr.out) (k:=k) (by rw [HLen.out.1];exact hlt)
     have HX1:=Lib.hid hx1
     obtain ⟨n1l,hn1l⟩ : ∃ n1l,x1.e.left.parts.length = n1l:=⟨_,rfl⟩
     obtain ⟨n1r,hn1r⟩ : ∃ n1r,x1.e.right.parts.length = n1r:=⟨_,rfl⟩
     obtain ⟨n1h,hn1h⟩ : ∃ n1h,x1.e.hs.length = n1h:=⟨_,rfl⟩
     obtain ⟨b1l,hb1l⟩ : ∃ b1l,x1.e.left.rest = b1l:=⟨_,rfl⟩
     obtain ⟨b1r,hb1r⟩ : ∃ b1r,x1.e.right.rest = b1r:=⟨_,rfl⟩
     rw [hn1l] at c0
     rw [hb1l] at c1
     rw [hn1r] at c2
     rw [hb1r] at c3
     rw [hn1h] at c4
     obtain ⟨wx,hwx⟩ : ∃ wx,wx = wr.alloc (.cells #[.slice x1.LA n1l x1.lc,.bool b1l,.slice x1.RA n1r x1.rc,.bool b1r,.slice x1.HA n1h x1.hc] 43):=⟨_,rfl⟩
     obtain ⟨B12,hB12⟩ : ∃ B12,wr.heap.size = B12:=⟨_,rfl⟩
     have hcx : Calm wr wx:=by
      show Below _ _ _
      rw [hwx]
      exact (Calm.refl _).alloc _
     have hf12 : FiveB wx B12 (.slice x1.LA n1l x1.lc) (.bool b1l) (.slice x1.RA n1r x1.rc) (.bool b1r) (.slice x1.HA n1h x1.hc):=by rw [hwx,← hB12];exact FiveB.new wr _ _ _ _ _ _
     have HIn : Hid (RowV w wx u10 out zs ∧ FiveB wx B12 (.slice x1.LA n1l x1.lc) (.bool b1l) (.slice x1.RA n1r x1.rc) (.bool b1r) (.slice x1.HA n1h x1.hc) ∧ some B12 ≠ u10.ownBlock):=⟨HRo.out.to hcx,hf12,fun e=>by have:=HRo.out.own.blk_lt e;omega⟩
     have HWx:=Lib.hid hwx
     have HB12:=Lib.hid hB12
     have HN1:=Lib.hid (And.intro hn1l (And.intro hb1l (And.intro hn1r (And.intro hb1r hn1h))))
     rw [hA1]
     clear hx1 hwx hB12 hcx hf12 hn1l hb1l hn1r hb1r hn1h
     go_upto_region 11 with (fail)
     rw [← HWx.out,HB12.out]
     clear c0 c1 c2 c3 c4 hb HB12
     go_wp2_with fail
     go_loopw [10,48] (fun v u wy=>∃ (j : Nat) (out2 : List Ent) (zs2 : List NewE),j ≤ n2 ∧ u = .int .i64 j ∧ Hid (comL ((pz (za.take k) zb ++ (zb.take j).map fun y=>(x1,y)).map prE) = some out2) ∧ Hid (RowV w wy v out2 zs2 ∧ FiveB wy B12 (.slice x1.LA n1l x1.lc) (.bool b1l) (.slice x1.RA n1r x1.rc) (.bool b1r) (.slice x1.HA n1h x1.hc) ∧ some B12 ≠ v.ownBlock)) (fun _ u _=>n2 - (intOf u).toNat)
     case atStart=>exact ⟨0,out,zs,Nat.zero_le _,rfl,by show _ = _;simpa using HT.out,HIn.out⟩
     case round=>
      obtain ⟨j,out2,zs2,hj,rfl,HT2,HI2⟩:=hrel
      by_cases hlt2 : j < n2
      ·obtain ⟨b9,o9,x2,hA9,hb9,hx2,c0,c1,c2,c3,c4⟩:=readE (HRd.out.2.calm HI2.out.1.own.calm) (k:=j) (by rw [HLen.out.2.1];exact hlt2)
       have HX2:=Lib.hid hx2
       obtain ⟨n2l,hn2l⟩ : ∃ n2l,x2.e.left.parts.length = n2l:=⟨_,rfl⟩
       obtain ⟨n2r,hn2r⟩ : ∃ n2r,x2.e.right.parts.length = n2r:=⟨_,rfl⟩
       obtain ⟨n2h,hn2h⟩ : ∃ n2h,x2.e.hs.length = n2h:=⟨_,rfl⟩
       obtain ⟨b2l,hb2l⟩ : ∃ b2l,x2.e.left.rest = b2l:=⟨_,rfl⟩
       obtain ⟨b2r,hb2r⟩ : ∃ b2r,x2.e.right.rest = b2r:=⟨_,rfl⟩
       rw [hn2l] at c0
       rw [hb2l] at c1
       rw [hn2r] at c2
       rw [hb2r] at c3
       rw [hn2h] at c4
       obtain ⟨wy,rfl⟩ : ∃ wy,wy = wr:=⟨_,rfl⟩
       obtain ⟨wz,hwz⟩ : ∃ wz,wz = wy.alloc (.cells #[.slice x2.LA n2l x2.lc,.bool b2l,.slice x2.RA n2r x2.rc,.bool b2r,.slice x2.HA n2h x2.hc] 43):=⟨_,rfl⟩
       obtain ⟨B14,hB14⟩ : ∃ B14,wy.heap.size = B14:=⟨_,rfl⟩
       have hcz : Calm wy wz:=by
        show Below _ _ _
        rw [hwz]
        exact (Calm.refl _).alloc _
       have hf14 : FiveB wz B14 (.slice x2.LA n2l x2.lc) (.bool b2l) (.slice x2.RA n2r x2.rc) (.bool b2r) (.slice x2.HA n2h x2.hc):=by rw [hwz,← hB14];exact FiveB.new wy _ _ _ _ _ _
       have hf12 : FiveB wz B12 (.slice x1.LA n1l x1.lc) (.bool b1l) (.slice x1.RA n1r x1.rc) (.bool b1r) (.slice x1.HA n1h x1.hc):=HI2.out.2.1.calm hcz
       have hcw : Calm w wz:=HI2.out.1.own.calm.trans hcz
       have mz1 : x1 ∈ za:=List.mem_of_getElem? HX1.out
       have mz2 : x2 ∈ zb:=List.mem_of_getElem? hx2
       have m1 : x1.e ∈ es:=by rw [← HZ.out.1];exact List.mem_map.2 ⟨x1,mz1,rfl⟩
       have m2 : x2.e ∈ fs:=by rw [← HZ.out.2];exact List.mem_map.2 ⟨x2,mz2,rfl⟩
       have g1:=HV.out.1.good x1.e m1
       have g2:=HV.out.2.1.good x2.e m2
       have s1:=HSm.out.1 _ m1
       have s2:=HSm.out.2 _ m2
       have u1:=entA_few ((HEnt.out.1 x1 mz1).calm hcw) s1 g1.2
       have u2:=entA_few ((HEnt.out.2 x2 mz2).calm hcw) s2 g2.2
       have r1 : SmallR x1.e.rule:=⟨by have:=s1.lp;show x1.e.left.parts.length ≤ _;omega,fun s hs'=>by have:=s1.ls s hs';omega,by have:=s1.rp;show x1.e.right.parts.length ≤ _;omega,fun s hs'=>by have:=s1.rs s hs';omega⟩
       have r2 : SmallR x2.e.rule:=⟨by have:=s2.lp;show x2.e.left.parts.length ≤ _;omega,fun s hs'=>by have:=s2.ls s hs';omega,by have:=s2.rp;show x2.e.right.parts.length ≤ _;omega,fun s hs'=>by have:=s2.rs s hs';omega⟩
       have HOl : Hid (out2.length ≤ 1048576):=by
        have h1:=comL_len HT2.out
        rw [List.length_map] at h1
        have h2:=(pz_part2 (za:=za) (zb:=zb) (k:=k) (j:=j) HX1.out).length_le
        rw [pz_len,HLen.out.1,HLen.out.2.1] at h2
        have h3:=HV.out.1.few
        have h4:=HV.out.2.1.few
        rw [HLen.out.2.2.1] at h3
        rw [HLen.out.2.2.2] at h4
        have h5 : n * n2 ≤ 32 * 32:=Nat.mul_le_mul h3 h4
        show out2.length ≤ _
        omega
       have HRet : Hid (comOf x1.e x2.e = none → comE es fs = ([],72)):=fun hno=>by
        refine HV.out.2.2.2 ?_
        rw [← HZ.out.1,← HZ.out.2]
        refine pr_stop (L:=(pz (za.take k) zb ++ (zb.take j).map fun y=>(x1,y)) ++ [(x1,x2)]) ?_ ?_
        ·rw [pz_snoc hx2]
         exact pz_part2 HX1.out
        ·have:=comL_stop (pre:=(pz (za.take k) zb ++ (zb.take j).map fun y=>(x1,y)).map prE) (post:=[]) (p:=(x1.e,x2.e)) hno
         rw [List.append_nil] at this
         rw [List.map_append]
         exact this
       have HGo : Hid (∀ o,comOf x1.e x2.e = some o → comL ((pz (za.take k) zb ++ (zb.take (j + 1)).map fun y=>(x1,y)).map prE) = some (out2 ++ o.toList)):=fun o ho=>by
        rw [← pz_snoc hx2,List.map_append]
        exact comL_step HT2.out ho
       have KLn1 : Hid (∀ X,Calls Tryz.prog 29 #[.agg #[.slice x1.LA n1l x1.lc,.bool b1l,.slice x1.RA n1r x1.rc,.bool b1r,.slice x1.HA n1h x1.hc]] X fun e w'=>e = .returned (.agg #[.bool false,.slice x1.LA n1l x1.lc,.bool b1l,.slice x1.RA n1r x1.rc,.bool b1r]) ∧ Calm X w'):=fun X=>rline_c _ _ _ _ _ _ _ _ _ _ _ X
       have KLn2 : Hid (∀ X,Calls Tryz.prog 29 #[.agg #[.slice x2.LA n2l x2.lc,.bool b2l,.slice x2.RA n2r x2.rc,.bool b2r,.slice x2.HA n2h x2.hc]] X fun e w'=>e = .returned (.agg #[.bool false,.slice x2.LA n2l x2.lc,.bool b2l,.slice x2.RA n2r x2.rc,.bool b2r]) ∧ Calm X w'):=fun X=>rline_c _ _ _ _ _ _ _ _ _ _ _ X
       have KCh : Hid (∀ X,Calm wz X → Calls Tryz.prog 28 #[.agg #[.bool false,.slice x1.LA n1l x1.lc,.bool b1l,.slice x1.RA n1r x1.rc,.bool b1r],.agg #[.bool false,.slice x2.LA n2l x2.lc,.bool b2l,.slice x2.RA n2r x2.rc,.bool b2r]] X fun e w'=>NarEnd (chainE x1.e.rule x2.e.rule) X.heap.size e w' ∧ Calm X w'):=fun X hX=>by
        have v1:=u1.calm hX
        have v2:=u2.calm hX
        have:=rchain_c x1.e.rule x2.e.rule x1.pl x2.pl X ⟨v1.l.r.toU,v1.r.r.toU,v1.l.room,v1.r.room,v1.l.cap,v1.r.cap⟩ r1 ⟨v2.l.r.toU,v2.r.r.toU,v2.l.room,v2.r.room,v2.l.cap,v2.r.cap⟩ r2
        unfold ruleV Ent.rule NewE.pl at this
        simp only [HN1.out.1,HN1.out.2.1,HN1.out.2.2.1,HN1.out.2.2.2.1,hn2l,hn2r,hb2l,hb2r] at this
        exact this
       have KNr : Hid (∀ X p pA pc pn pr,Calm wz X → PatA X pA pc p → p.parts.length = pn → p.rest = pr → Calls Tryz.prog 30 #[.agg #[.bool false,.slice x1.LA n1l x1.lc,.bool b1l,.slice x1.RA n1r x1.rc,.bool b1r],.agg #[.slice pA pn pc,.bool pr]] X fun e w'=>NarEnd (narR x1.e.rule p) X.heap.size e w' ∧ Calm X w'):=fun X p pA pc pn pr hX hp h1 h2=>by
        have v1:=u1.calm hX
        have:=rnright_c x1.e.rule p x1.pl pn pc pr pA X ⟨v1.l.r.toU,v1.r.r.toU,v1.l.room,v1.r.room,v1.l.cap,v1.r.cap⟩ r1 hp h1 h2
        unfold ruleV Ent.rule NewE.pl at this
        simp only [HN1.out.1,HN1.out.2.1,HN1.out.2.2.1,HN1.out.2.2.2.1] at this
        exact this
       have HS14 : Hid (∀ X,Calm wz X → Calm wz X ∧ X.cell? ⟨B12,0,none⟩ = some (.slice x1.LA n1l x1.lc) ∧ X.cell? ⟨B12,1,none⟩ = some (.bool b1l) ∧ X.cell? ⟨B12,2,none⟩ = some (.slice x1.RA n1r x1.rc) ∧ X.cell? ⟨B12,3,none⟩ = some (.bool b1r) ∧ X.cell? ⟨B12,4,none⟩ = some (.slice x1.HA n1h x1.hc) ∧ X.cell? ⟨B14,0,none⟩ = some (.slice x2.LA n2l x2.lc) ∧ X.cell? ⟨B14,1,none⟩ = some (.bool b2l) ∧ X.cell? ⟨B14,2,none⟩ = some (.slice x2.RA n2r x2.rc) ∧ X.cell? ⟨B14,3,none⟩ = some (.bool b2r) ∧ X.cell? ⟨B14,4,none⟩ = some (.slice x2.HA n2h x2.hc)):=fun X hX=>
        have a:=hf12.calm hX
        have b:=hf14.calm hX
        ⟨hX,a.c0,a.c1,a.c2,a.c3,a.c4,b.c0,b.c1,b.c2,b.c3,b.c4⟩
       have HU:=Lib.hid (And.intro u1 u2)
       have HSz:=Lib.hid (And.intro s1 s2)
       have HGd:=Lib.hid (And.intro g1 g2)
       have HNh : Hid (x1.e.hs.length = n1h ∧ x2.e.hs.length = n2h):=⟨HN1.out.2.2.2.2,hn2h⟩
       have HFv:=Lib.hid (And.intro hf12 hf14)
       have HCw:=Lib.hid hcw
       have HCz:=Lib.hid hcz
       have HWz:=Lib.hid hwz
       have HB14:=Lib.hid hB14
       obtain ⟨⟨oc,xe⟩,hX⟩ : ∃ X,chainE x1.e.rule x2.e.rule = X:=⟨_,rfl⟩
       rw [hX] at KCh
       have HX:=Lib.hid hX
       rw [hA9]
       clear hX hx2 hwz hB14 hcz hf14 hf12 hcw mz1 mz2 m1 m2 g1 g2 s1 s2 u1 u2 r1 r2 hn2l hb2l hn2r hb2r hn2h
       go_upto_region 14 with (fail)
       rw [← HWz.out,HB14.out]
       clear c0 c1 c2 c3 c4 hb9 HB14 HWz
       cases oc with
       |none=>
        have KCh1 : Hid (∀ X,Calm wz X → Calls Tryz.prog 28 #[.agg #[.bool false,.slice x1.LA n1l x1.lc,.bool b1l,.slice x1.RA n1r x1.rc,.bool b1r],.agg #[.bool false,.slice x2.LA n2l x2.lc,.bool b2l,.slice x2.RA n2r x2.rc,.bool b2r]] X fun e w'=>e = .returned (.tuple #[.agg #[.bool false,.slice none 0 0,.bool false,.slice none 0 0,.bool false],.bool false,.int .i64 xe]) ∧ Calm X w'):=fun X hX=>(KCh.out X hX).mono fun e w' h=>by
         obtain ⟨h1,h2⟩:=h
         refine ⟨?_,h2⟩
         rcases h1 with ⟨_,h1⟩ | ⟨m,a2,h1,_⟩
         ·exact h1
         ·cases h1
        clear KCh
        go_cut [16,17] (fun s u wx=>s = .bool false ∧ u = .int .i64 xe ∧ Hid (Calm wz wx))
        case first=>
         clear HRet HGo HOl HU HSz HGd HN1 HNh HFv HZ HRd HEnt HLen HSm HKC KC2 HC2 HC3 HV HT HRo HX1 HIn HWx HT2 HI2 HX2 HCw HCz HCr hcn hcc hcn2 hcc2 hnn HX
         refine wp_region_held_drew (S:=fun X=>Calm wz X ∧ X.cell? ⟨B12,0,none⟩ = some (.slice x1.LA n1l x1.lc) ∧ X.cell? ⟨B12,1,none⟩ = some (.bool b1l) ∧ X.cell? ⟨B12,2,none⟩ = some (.slice x1.RA n1r x1.rc) ∧ X.cell? ⟨B12,3,none⟩ = some (.bool b1r) ∧ X.cell? ⟨B12,4,none⟩ = some (.slice x1.HA n1h x1.hc) ∧ X.cell? ⟨B14,0,none⟩ = some (.slice x2.LA n2l x2.lc) ∧ X.cell? ⟨B14,1,none⟩ = some (.bool b2l) ∧ X.cell? ⟨B14,2,none⟩ = some (.slice x2.RA n2r x2.rc) ∧ X.cell? ⟨B14,3,none⟩ = some (.bool b2r) ∧ X.cell? ⟨B14,4,none⟩ = some (.slice x2.HA n2h x2.hc)) (by kernel_rfl) (HS14.out _ (Below.drew (Calm.refl _))) (fun hHeld=>?_)
         refine tk 0 rfl ?_
         try simp only [aP,Act.put]
         refine tk 2 rfl ?_
         try simp only [aP,Act.put]
         refine wpAnyH_ready (rs:=[1,9]) (by kernel_rfl) (by simp) ?_
         refine AllReadyH.cons rfl (fun K hK=>?_) (AllReadyH.cons rfl (fun K hK=>?_) AllReadyH.nil)
         go_simp
         refine (KLn1.out _).mono ?_
         rintro e wc0 ⟨rfl,hc0⟩
         refine hK.out _ _ ?_ (fun hN=>?_)
         ·exact HS14.out _ (hHeld.1.trans hc0)
         clear hK K hHeld
         have hHeld:=hN
         clear hN
         try simp only [aP,Act.put]
         rotate_left
         go_simp
         refine hK.out _ _ ?_ (fun hN=>?_)
         ·exact HS14.out _ (by first | exact hHeld.1.alloc _ | exact Below.drew ((Calm.refl _).alloc _))
         have hLo:=Nat.le_refl wz.heap.size
         have hZ:=five_drew wz 52 (v0:=.bool false) (v1:=.slice none 0 0) (v2:=.bool false) (v3:=.slice none 0 0) (v4:=.bool false)
         clear hK K hHeld
         have hHeld:=hN
         clear hN
         try simp only [aP,Act.put]
         refine wpAnyH_ready (rs:=[1]) (by kernel_rfl) (by simp) ?_
         refine AllReadyH.cons rfl (fun K hK=>?_) AllReadyH.nil
         go_simp
         refine (KLn1.out _).mono ?_
         rintro e wc0 ⟨rfl,hc0⟩
         refine hK.out _ _ ?_ (fun hN=>?_)
         ·exact HS14.out _ (hHeld.1.trans hc0)
         have hZ:=hZ.calm hc0
         clear hK K hHeld
         have hHeld:=hN
         clear hN
         try simp only [aP,Act.put]
         rotate_left
         refine wpAnyH_ready (rs:=[3,9]) (by kernel_rfl) (by simp) ?_
         refine AllReadyH.cons rfl (fun K hK=>?_) (AllReadyH.cons rfl (fun K hK=>?_) AllReadyH.nil)
         go_simp
         refine (KLn2.out _).mono ?_
         rintro e wc1 ⟨rfl,hc1⟩
         refine hK.out _ _ ?_ (fun hN=>?_)
         ·exact HS14.out _ (hHeld.1.trans hc1)
         clear hK K hHeld
         have hHeld:=hN
         clear hN
         try simp only [aP,Act.put]
         rotate_left
         go_simp
         refine hK.out _ _ ?_ (fun hN=>?_)
         ·exact HS14.out _ (by first | exact hHeld.1.alloc _ | exact Below.drew ((Calm.refl _).alloc _))
         have hPre : Calm wz wc0:=hHeld.1
         have hLo:=hPre.size
         have hZ:=FiveB.new wc0 (.bool false) (.slice none 0 0) (.bool false) (.slice none 0 0) (.bool false) 52
         clear hK K hHeld
         have hHeld:=hN
         clear hN
         try simp only [aP,Act.put]
         iterate 2
          refine wpAnyH_ready (rs:=[3]) (by kernel_rfl) (by simp) ?_
          refine AllReadyH.cons rfl (fun K hK=>?_) AllReadyH.nil
          go_simp
          refine (KLn2.out _).mono ?_
          rintro e wc1 ⟨rfl,hc1⟩
          refine hK.out _ _ ?_ (fun hN=>?_)
          ·exact HS14.out _ (hHeld.1.trans hc1)
          have hZ:=hZ.calm hc1
          clear hK K hHeld
          have hHeld:=hN
          clear hN
          try simp only [aP,Act.put]
          rotate_left
         refine wpAnyH_ready (rs:=[4,9]) (by kernel_rfl) (by simp) ?_
         refine AllReadyH.cons rfl (fun K hK=>?_) (AllReadyH.cons rfl (fun K hK=>?_) AllReadyH.nil)
         go_simp
         refine (KCh1.out _ hHeld.1).mono ?_
         rintro e wc2 ⟨rfl,hc2⟩
         refine hK.out _ _ ?_ (fun hN=>?_)
         ·exact HS14.out _ (hHeld.1.trans hc2)
         have hP2:=hHeld.1.size
         clear hK K hHeld
         have hHeld:=hN
         clear hN
         try simp only [aP,Act.put]
         rotate_left
         go_simp
         refine hK.out _ _ ?_ (fun hN=>?_)
         ·exact HS14.out _ (by first | exact hHeld.1.alloc _ | exact Below.drew ((Calm.refl _).alloc _))
         have hPre : Calm wz wc1:=hHeld.1
         have hLo:=hPre.size
         have hZ:=FiveB.new wc1 (.bool false) (.slice none 0 0) (.bool false) (.slice none 0 0) (.bool false) 52
         clear hK K hHeld
         have hHeld:=hN
         clear hN
         try simp only [aP,Act.put]
         iterate 3
          refine wpAnyH_ready (rs:=[4]) (by kernel_rfl) (by simp) ?_
          refine AllReadyH.cons rfl (fun K hK=>?_) AllReadyH.nil
          go_simp
          refine (KCh1.out _ hHeld.1).mono ?_
          rintro e wc2 ⟨rfl,hc2⟩
          refine hK.out _ _ ?_ (fun hN=>?_)
          ·exact HS14.out _ (hHeld.1.trans hc2)
          have hP2:=hHeld.1.size
          have hbP:=hZ.lt
          have hZ:=hZ.calm hc2
          clear hK K hHeld
          have hHeld:=hN
          clear hN
          try simp only [aP,Act.put]
          rotate_left
         iterate 4
          refine tk 5 rfl ?_
          try simp only [aP,Act.put]
          refine tk 6 rfl ?_
          try simp only [aP,Act.put]
          refine tk 7 rfl ?_
          try simp only [aP,Act.put]
          refine tk 8 rfl ?_
          try simp only [aP,Act.put]
          rotate_left
         refine wpAnyH_ready (rs:=[9]) (by kernel_rfl) (by simp) ?_
         refine AllReadyH.cons rfl (fun K hK=>?_) AllReadyH.nil
         go_simp
         refine hK.out _ _ ?_ (fun hN=>?_)
         ·exact HS14.out _ (by first | exact hHeld.1.alloc _ | exact Below.drew ((Calm.refl _).alloc _))
         have hPre : Calm wz wc2:=hHeld.1
         have hLo:=hPre.size
         have hZ:=FiveB.new wc2 (.bool false) (.slice none 0 0) (.bool false) (.slice none 0 0) (.bool false) 52
         clear hK K hHeld
         have hHeld:=hN
         clear hN
         try simp only [aP,Act.put]
         iterate 4
          have z:=hZ
          obtain ⟨-,z0,z1,z2,z3,z4,f⟩:=z
          have f0:=f 0
          have f1:=f 1
          have f2:=f 2
          have f3:=f 3
          have f4:=f 4
          refine wpAnyH_ready (rs:=[10]) (by kernel_rfl) (by simp) ?_
          refine AllReadyH.cons rfl (fun K hK=>?_) AllReadyH.nil
          go_simp
          refine hK.out _ _ ?_ (fun hN=>?_)
          ·first
            |exact HS14.out _ (calm5 hHeld.1 hLo _ _ _ _ _)
            |exact HS14.out _ (hPre.alloc _)
          clear hK K
          try simp only [aP,Act.put]
          refine tk 11 rfl ?_
          try simp only [aP,Act.put]
          refine tk 12 rfl ?_
          try simp only [aP,Act.put]
          refine wpAnyH_done (by kernel_rfl) ?_ _
          go_wp2_with fail
          go_meet
          case rel=>exact ⟨rfl,rfl,hN.1⟩
        case rest=>
         obtain ⟨rfl,rfl,HR⟩:=hcut
         by_cases hx0 : xe = 0
         ·subst hx0
          have HG2:=Lib.hid (HGo.out none (comOf_miss (by rw [HX.out]) (by rw [HX.out])))
          go_wp2_with fail
          go_roundw
          case rel=>exact ⟨j + 1,out2,zs2,by omega,by go_num,by have:=HG2.out;rw [Option.toList_none,List.append_nil] at this;exact this,HI2.out.1.to (HCz.out.trans HR.out),HFv.out.1.calm HR.out,HI2.out.2.2⟩
          case measure=>simp [intOf];omega
         ·have HNo:=Lib.hid (HRet.out (comOf_bad (by rw [HX.out];exact hx0)))
          have hb : (xe != 0) = true:=by simpa using hx0
          clear hx0
          go_wp2_with fail
          go_ret2
          exact ⟨by rw [HNo.out];exact entOutR_err _ _,HCw.out.trans HR.out⟩
       |some m=>
        obtain ⟨rfl,hme⟩ : xe = 0 ∧ m.excl = false:=by
         have h1 : (chainE x1.e.rule x2.e.rule).1 = some m:=by rw [HX.out]
         have h2:=chain_snd h1
         rw [HX.out] at h2
         exact h2
        have hm1 : (chainE x1.e.rule x2.e.rule).1 = some m:=by rw [HX.out]
        have HMt : Hid (Sy.Twin m.left m.right):=ruleErr_twin.1 (chain_good hm1)
        have HMz : Hid ((∀ s ∈ m.left.parts,s.length ≤ 250 + 250) ∧ (∀ s ∈ m.right.parts,s.length ≤ 250 + 250) ∧ m.excl = false):=chain_size hm1 (K:=250) (by decide) HSz.out.1.ls HSz.out.1.rs HSz.out.2.ls HSz.out.2.rs
        obtain ⟨ml,hml⟩ : ∃ ml,m.left.parts.length = ml:=⟨_,rfl⟩
        obtain ⟨mr,hmr⟩ : ∃ mr,m.right.parts.length = mr:=⟨_,rfl⟩
        obtain ⟨tl,htl⟩ : ∃ tl,m.left.rest = tl:=⟨_,rfl⟩
        obtain ⟨tr,htr⟩ : ∃ tr,m.right.rest = tr:=⟨_,rfl⟩
        have KCh1 : Hid (∀ X,Calm wz X → Calls Tryz.prog 28 #[.agg #[.bool false,.slice x1.LA n1l x1.lc,.bool b1l,.slice x1.RA n1r x1.rc,.bool b1r],.agg #[.bool false,.slice x2.LA n2l x2.lc,.bool b2l,.slice x2.RA n2r x2.rc,.bool b2r]] X fun e w'=>(∃ a2,e = .returned (.tuple #[.agg #[.bool false,.slice a2.AL ml a2.cl,.bool tl,.slice a2.AR mr a2.cr,.bool tr],.bool true,.int .i64 0]) ∧ RuleN w' X.heap.size a2 m) ∧ Calm X w'):=fun X hX=>(KCh.out X hX).mono fun e w' h=>by
         obtain ⟨h1,h2⟩:=h
         refine ⟨?_,h2⟩
         rcases h1 with ⟨h1,_⟩ | ⟨m',a2,h1,h3,h4⟩
         ·cases h1
         ·obtain rfl : m = m':=by simpa using h1
          refine ⟨a2,?_,h4⟩
          rw [h3]
          unfold ruleV
          rw [hme,hml,hmr,htl,htr]
        have HM:=Lib.hid (And.intro hm1 (And.intro hml (And.intro hmr (And.intro htl htr))))
        clear KCh hm1 hme hml hmr htl htr
        go_cut [15,16,17] (fun s t u wx=>∃ B15 a2,s = .pointer (some ⟨B15,0,none⟩) ∧ t = .bool true ∧ u = .int .i64 0 ∧ Hid (LineB wz wx B15 wz.heap.size a2 m (.bool false) (.slice a2.AL ml a2.cl) (.bool tl) (.slice a2.AR mr a2.cr) (.bool tr)))
        case first=>
         clear HRet HGo HOl HU HSz HGd HN1 HNh HFv HZ HRd HEnt HLen HSm HKC KC2 HC2 HC3 HV HT HRo HX1 HIn HWx HT2 HI2 HX2 HCw HCz HCr hcn hcc hcn2 hcc2 hnn HX
         refine wp_region_held_drew (S:=fun X=>Calm wz X ∧ X.cell? ⟨B12,0,none⟩ = some (.slice x1.LA n1l x1.lc) ∧ X.cell? ⟨B12,1,none⟩ = some (.bool b1l) ∧ X.cell? ⟨B12,2,none⟩ = some (.slice x1.RA n1r x1.rc) ∧ X.cell? ⟨B12,3,none⟩ = some (.bool b1r) ∧ X.cell? ⟨B12,4,none⟩ = some (.slice x1.HA n1h x1.hc) ∧ X.cell? ⟨B14,0,none⟩ = some (.slice x2.LA n2l x2.lc) ∧ X.cell? ⟨B14,1,none⟩ = some (.bool b2l) ∧ X.cell? ⟨B14,2,none⟩ = some (.slice x2.RA n2r x2.rc) ∧ X.cell? ⟨B14,3,none⟩ = some (.bool b2r) ∧ X.cell? ⟨B14,4,none⟩ = some (.slice x2.HA n2h x2.hc)) (by kernel_rfl) (HS14.out _ (Below.drew (Calm.refl _))) (fun hHeld=>?_)
         refine tk 0 rfl ?_
         try simp only [aP,Act.put]
         refine tk 2 rfl ?_
         try simp only [aP,Act.put]
         refine wpAnyH_ready (rs:=[1,9]) (by kernel_rfl) (by simp) ?_
         refine AllReadyH.cons rfl (fun K hK=>?_) (AllReadyH.cons rfl (fun K hK=>?_) AllReadyH.nil)
         go_simp
         refine (KLn1.out _).mono ?_
         rintro e wc0 ⟨rfl,hc0⟩
         refine hK.out _ _ ?_ (fun hN=>?_)
         ·exact HS14.out _ (hHeld.1.trans hc0)
         clear hK K hHeld
         have hHeld:=hN
         clear hN
         try simp only [aP,Act.put]
         rotate_left
         go_simp
         refine hK.out _ _ ?_ (fun hN=>?_)
         ·exact HS14.out _ (by first | exact hHeld.1.alloc _ | exact Below.drew ((Calm.refl _).alloc _))
         have hLo:=Nat.le_refl wz.heap.size
         have hZ:=five_drew wz 52 (v0:=.bool false) (v1:=.slice none 0 0) (v2:=.bool false) (v3:=.slice none 0 0) (v4:=.bool false)
         clear hK K hHeld
         have hHeld:=hN
         clear hN
         try simp only [aP,Act.put]
         refine wpAnyH_ready (rs:=[1]) (by kernel_rfl) (by simp) ?_
         refine AllReadyH.cons rfl (fun K hK=>?_) AllReadyH.nil
         go_simp
         refine (KLn1.out _).mono ?_
         rintro e wc0 ⟨rfl,hc0⟩
         refine hK.out _ _ ?_ (fun hN=>?_)
         ·exact HS14.out _ (hHeld.1.trans hc0)
         have hZ:=hZ.calm hc0
         clear hK K hHeld
         have hHeld:=hN
         clear hN
         try simp only [aP,Act.put]
         rotate_left
         refine wpAnyH_ready (rs:=[3,9]) (by kernel_rfl) (by simp) ?_
         refine AllReadyH.cons rfl (fun K hK=>?_) (AllReadyH.cons rfl (fun K hK=>?_) AllReadyH.nil)
         go_simp
         refine (KLn2.out _).mono ?_
         rintro e wc1 ⟨rfl,hc1⟩
         refine hK.out _ _ ?_ (fun hN=>?_)
         ·exact HS14.out _ (hHeld.1.trans hc1)
         clear hK K hHeld
         have hHeld:=hN
         clear hN
         try simp only [aP,Act.put]
         rotate_left
         go_simp
         refine hK.out _ _ ?_ (fun hN=>?_)
         ·exact HS14.out _ (by first | exact hHeld.1.alloc _ | exact Below.drew ((Calm.refl _).alloc _))
         have hPre : Calm wz wc0:=hHeld.1
         have hLo:=hPre.size
         have hZ:=FiveB.new wc0 (.bool false) (.slice none 0 0) (.bool false) (.slice none 0 0) (.bool false) 52
         clear hK K hHeld
         have hHeld:=hN
         clear hN
         try simp only [aP,Act.put]
         iterate 2
          refine wpAnyH_ready (rs:=[3]) (by kernel_rfl) (by simp) ?_
          refine AllReadyH.cons rfl (fun K hK=>?_) AllReadyH.nil
          go_simp
          refine (KLn2.out _).mono ?_
          rintro e wc1 ⟨rfl,hc1⟩
          refine hK.out _ _ ?_ (fun hN=>?_)
          ·exact HS14.out _ (hHeld.1.trans hc1)
          have hZ:=hZ.calm hc1
          clear hK K hHeld
          have hHeld:=hN
          clear hN
          try simp only [aP,Act.put]
          rotate_left
         refine wpAnyH_ready (rs:=[4,9]) (by kernel_rfl) (by simp) ?_
         refine AllReadyH.cons rfl (fun K hK=>?_) (AllReadyH.cons rfl (fun K hK=>?_) AllReadyH.nil)
         go_simp
         refine (KCh1.out _ hHeld.1).mono ?_
         rintro e wc2 ⟨⟨a2,rfl,hN2⟩,hc2⟩
         refine hK.out _ _ ?_ (fun hN=>?_)
         ·exact HS14.out _ (hHeld.1.trans hc2)
         have hP2:=hHeld.1.size
         clear hK K hHeld
         have hHeld:=hN
         clear hN
         try simp only [aP,Act.put]
         rotate_left
         go_simp
         refine hK.out _ _ ?_ (fun hN=>?_)
         ·exact HS14.out _ (by first | exact hHeld.1.alloc _ | exact Below.drew ((Calm.refl _).alloc _))
         have hPre : Calm wz wc1:=hHeld.1
         have hLo:=hPre.size
         have hZ:=FiveB.new wc1 (.bool false) (.slice none 0 0) (.bool false) (.slice none 0 0) (.bool false) 52
         clear hK K hHeld
         have hHeld:=hN
         clear hN
         try simp only [aP,Act.put]
         iterate 3
          refine wpAnyH_ready (rs:=[4]) (by kernel_rfl) (by simp) ?_
          refine AllReadyH.cons rfl (fun K hK=>?_) AllReadyH.nil
          go_simp
          refine (KCh1.out _ hHeld.1).mono ?_
          rintro e wc2 ⟨⟨a2,rfl,hN2⟩,hc2⟩
          refine hK.out _ _ ?_ (fun hN=>?_)
          ·exact HS14.out _ (hHeld.1.trans hc2)
          have hP2:=hHeld.1.size
          have hbP:=hZ.lt
          have hZ:=hZ.calm hc2
          clear hK K hHeld
          have hHeld:=hN
          clear hN
          try simp only [aP,Act.put]
          rotate_left
         iterate 4
          refine tk 5 rfl ?_
          try simp only [aP,Act.put]
          refine tk 6 rfl ?_
          try simp only [aP,Act.put]
          refine tk 7 rfl ?_
          try simp only [aP,Act.put]
          refine tk 8 rfl ?_
          try simp only [aP,Act.put]
          rotate_left
         refine wpAnyH_ready (rs:=[9]) (by kernel_rfl) (by simp) ?_
         refine AllReadyH.cons rfl (fun K hK=>?_) AllReadyH.nil
         go_simp
         refine hK.out _ _ ?_ (fun hN=>?_)
         ·exact HS14.out _ (by first | exact hHeld.1.alloc _ | exact Below.drew ((Calm.refl _).alloc _))
         have hPre : Calm wz wc2:=hHeld.1
         have hLo:=hPre.size
         have hZ:=FiveB.new wc2 (.bool false) (.slice none 0 0) (.bool false) (.slice none 0 0) (.bool false) 52
         clear hK K hHeld
         have hHeld:=hN
         clear hN
         try simp only [aP,Act.put]
         iterate 4
          have z:=hZ
          obtain ⟨-,z0,z1,z2,z3,z4,f⟩:=z
          have f0:=f 0
          have f1:=f 1
          have f2:=f 2
          have f3:=f 3
          have f4:=f 4
          refine wpAnyH_ready (rs:=[10]) (by kernel_rfl) (by simp) ?_
          refine AllReadyH.cons rfl (fun K hK=>?_) AllReadyH.nil
          go_simp
          refine hK.out _ _ ?_ (fun hN=>?_)
          ·first
            |exact HS14.out _ (calm5 hHeld.1 hLo _ _ _ _ _)
            |exact HS14.out _ (hPre.alloc _)
          clear hK K
          try simp only [aP,Act.put]
          refine tk 11 rfl ?_
          try simp only [aP,Act.put]
          refine tk 12 rfl ?_
          try simp only [aP,Act.put]
          refine wpAnyH_done (by kernel_rfl) ?_ _
          go_wp2_with fail
          go_meet
          case rel=>
           first
            |(refine ⟨_,a2,rfl,rfl,rfl,Lib.hid ?_⟩;with_reducible exact lineB_new hPre hP2 hN2)
            |(refine ⟨_,a2,rfl,rfl,rfl,Lib.hid ?_⟩;with_reducible exact lineB_set hZ hHeld.1 hLo hbP hP2 hN2)
        case rest=>
         obtain ⟨B15,a2,rfl,rfl,rfl,HLB⟩:=hcut
         obtain ⟨wv,rfl⟩ : ∃ wv,wv = wc:=⟨_,rfl⟩
         have HCx : Hid (Calm wz wv):=HLB.out.calm
         obtain ⟨lx,hlx,hXp⟩:=(HU.out.1.calm HCx.out).h.places
         have hl64 : n1h ≤ 64 ∧ n2h ≤ 64:=⟨by rw [← HNh.out.1];exact (gErr_zero HGd.out.1.2).2.2,by rw [← HNh.out.2];exact (gErr_zero HGd.out.2.2).2.2⟩
         have HLx : Hid (lx.length = n1h ∧ lx.map (·.p) = x1.e.hs ∧ PatsX wv x1.HA lx):=⟨by rw [← HNh.out.1,← hlx,List.length_map],hlx,hXp⟩
         have k84:=(HFv.out.1.calm HCx.out).c4
         clear hlx hXp
         go_wp2_with (at_builtin;refine wpList_append_ps rfl _ (.tmp 66) rfl wv (.slice none 0 0) [] lx rfl (OwnX.nil (Calm.refl _)) x1.HA n1h x1.hc rfl HLx.out.1 HLx.out.2.2.read (by simp;omega) ?_;intro v6 w6 hown6 hgr6;rw [List.nil_append] at hown6;obtain ⟨A6,c6,hv6⟩:=hown6.len_shape;rw [HLx.out.1] at hv6;subst hv6;have k94:=(HFv.out.2.calm (HCx.out.trans hown6.calm)).c4)
         have HJ0 : Hid (BackJ wv w6 x1.e.rule x2.e.hs 0 lx [] (.slice A6 n1h c6)):=⟨by rw [List.append_nil];exact hown6,rfl,fun y hy=>by cases hy⟩
         clear hown6 k84 hgr6
         go_loopw [18,71] (fun v u wr2=>∃ (i : Nat) (ys : List NewP),i ≤ n2h ∧ u = .int .i64 i ∧ Hid (BackJ wv wr2 x1.e.rule x2.e.hs i lx ys v)) (fun _ u _=>n2h - (intOf u).toNat)
         case atStart=>exact ⟨0,[],Nat.zero_le _,rfl,HJ0.out⟩
         case round=>
          obtain ⟨i,ys,hi,rfl,HJ⟩:=hrel
          obtain ⟨wr2,rfl⟩ : ∃ wr2,wr2 = wr:=⟨_,rfl⟩
          clear k94 HJ0
          have HCr2 : Hid (Calm wz wr2):=HCx.out.trans HJ.out.own.calm
          by_cases hlk : i < n2h
          ·obtain ⟨b5,o5,p,Ap,cp,hA2,hb5,hp,c0,c1,hroom,hcap,hstr⟩:=(HU.out.2.calm HCr2.out).h.get (k:=i) (by rw [HNh.out.2];exact hlk)
           obtain ⟨np,hnp⟩ : ∃ np,p.parts.length = np:=⟨_,rfl⟩
           obtain ⟨rp,hrp⟩ : ∃ rp,p.rest = rp:=⟨_,rfl⟩
           rw [hnp] at c0
           rw [hrp] at c1
           have HP:=Lib.hid hp
           have HPn : Hid (PatA wr2 Ap cp p ∧ p.parts.length = np ∧ p.rest = rp):=⟨⟨hstr,hroom,hcap⟩,hnp,hrp⟩
           obtain ⟨wb,hwb⟩ : ∃ wb,wb = wr2.alloc (.cells #[.slice Ap np cp,.bool rp] 40):=⟨_,rfl⟩
           obtain ⟨B20,hB20⟩ : ∃ B20,wr2.heap.size = B20:=⟨_,rfl⟩
           have HCb : Hid (Calm wr2 wb):=by
            show Below _ _ _
            rw [hwb]
            exact (Calm.refl _).alloc _
           have htb : TwoB wb B20 (.slice Ap np cp) (.bool rp):=by
            rw [hwb,← hB20]
            exact TwoB.new wr2 _ _ _
           have HS22 : Hid (∀ X,Calm wb X → Calm wb X ∧ X.cell? ⟨B12,0,none⟩ = some (.slice x1.LA n1l x1.lc) ∧ X.cell? ⟨B12,1,none⟩ = some (.bool b1l) ∧ X.cell? ⟨B12,2,none⟩ = some (.slice x1.RA n1r x1.rc) ∧ X.cell? ⟨B12,3,none⟩ = some (.bool b1r) ∧ X.cell? ⟨B12,4,none⟩ = some (.slice x1.HA n1h x1.hc) ∧ X.cell? ⟨B20,0,none⟩ = some (.slice Ap np cp) ∧ X.cell? ⟨B20,1,none⟩ = some (.bool rp)):=fun X hX=>by
            have a:=HFv.out.1.calm (HCr2.out.trans (HCb.out.trans hX))
            have b:=htb.calm hX
            exact ⟨hX,a.c0,a.c1,a.c2,a.c3,a.c4,b.c0,b.c1⟩
           have KNq : Hid (∀ X,Calm wb X → Calls Tryz.prog 30 #[.agg #[.bool false,.slice x1.LA n1l x1.lc,.bool b1l,.slice x1.RA n1r x1.rc,.bool b1r],.agg #[.slice Ap np cp,.bool rp]] X fun e w'=>NarEnd (narR x1.e.rule p) X.heap.size e w' ∧ Calm X w'):=fun X hX=>KNr.out X p Ap cp np rp (HCr2.out.trans (HCb.out.trans hX)) ((HPn.out.1.calm HCb.out).calm hX) HPn.out.2.1 HPn.out.2.2
           have HWb:=Lib.hid hwb
           have HB20:=Lib.hid hB20
           obtain ⟨⟨oq,xh⟩,hXh⟩ : ∃ X,narR x1.e.rule p = X:=⟨_,rfl⟩
           rw [hXh] at KNq
           have HXh:=Lib.hid hXh
           rw [hA2]
           clear hp hroom hcap hstr hnp hrp hwb hB20 htb hXh
           go_upto_region 22 with (fail)
           rw [← HWb.out,HB20.out]
           clear c0 c1 hb5 HB20
           cases oq with
           |none=>
            have KNr1 : Hid (∀ X,Calm wb X → Calls Tryz.prog 30 #[.agg #[.bool false,.slice x1.LA n1l x1.lc,.bool b1l,.slice x1.RA n1r x1.rc,.bool b1r],.agg #[.slice Ap np cp,.bool rp]] X fun e w'=>e = .returned (.tuple #[.agg #[.bool false,.slice none 0 0,.bool false,.slice none 0 0,.bool false],.bool false,.int .i64 xh]) ∧ Calm X w'):=fun X hX=>(KNq.out X hX).mono fun e w' h=>by
             obtain ⟨h1,h2⟩:=h
             refine ⟨?_,h2⟩
             rcases h1 with ⟨_,h1⟩ | ⟨q,a3,h1,_⟩
             ·exact h1
             ·cases h1
            clear KNq KNr
            go_cut [22,23] (fun s u wx=>s = .bool false ∧ u = .int .i64 xh ∧ Hid (Calm wb wx))
            case first=>
             clear HRet HGo HOl HU HSz HGd HN1 HNh HFv HZ HRd HEnt HLen HSm HKC KC2 HC2 HC3 HV HT HRo HX1 HIn HWx HT2 HI2 HX2 HCw HCz HCr hcn hcc hcn2 hcc2 hnn HX HXh HJ HLx HP HPn HCr2 HLB KCh1 HMt HMz HM HCx HS14 HCb HWb 
             refine wp_region_held_drew (S:=fun X=>Calm wb X ∧ X.cell? ⟨B12,0,none⟩ = some (.slice x1.LA n1l x1.lc) ∧ X.cell? ⟨B12,1,none⟩ = some (.bool b1l) ∧ X.cell? ⟨B12,2,none⟩ = some (.slice x1.RA n1r x1.rc) ∧ X.cell? ⟨B12,3,none⟩ = some (.bool b1r) ∧ X.cell? ⟨B12,4,none⟩ = some (.slice x1.HA n1h x1.hc) ∧ X.cell? ⟨B20,0,none⟩ = some (.slice Ap np cp) ∧ X.cell? ⟨B20,1,none⟩ = some (.bool rp)) (by kernel_rfl) (HS22.out _ (Below.drew (Calm.refl _))) (fun hHeld=>?_)
             refine tk 0 rfl ?_
             try simp only [aP,Act.put]
             refine tk 2 rfl ?_
             try simp only [aP,Act.put]
             refine wpAnyH_ready (rs:=[1,8]) (by kernel_rfl) (by simp) ?_
             refine AllReadyH.cons rfl (fun K hK=>?_) (AllReadyH.cons rfl (fun K hK=>?_) AllReadyH.nil)
             go_simp
             refine (KLn1.out _).mono ?_
             rintro e wc0 ⟨rfl,hc0⟩
             refine hK.out _ _ ?_ (fun hN=>?_)
             ·exact HS22.out _ (hHeld.1.trans hc0)
             clear hK K hHeld
             have hHeld:=hN
             clear hN
             try simp only [aP,Act.put]
             rotate_left
             go_simp
             refine hK.out _ _ ?_ (fun hN=>?_)
             ·exact HS22.out _ (by first | exact hHeld.1.alloc _ | exact Below.drew ((Calm.refl _).alloc _))
             have hLo:=Nat.le_refl wb.heap.size
             have hZ:=five_drew wb 52 (v0:=.bool false) (v1:=.slice none 0 0) (v2:=.bool false) (v3:=.slice none 0 0) (v4:=.bool false)
             clear hK K hHeld
             have hHeld:=hN
             clear hN
             try simp only [aP,Act.put]
             refine wpAnyH_ready (rs:=[1]) (by kernel_rfl) (by simp) ?_
             refine AllReadyH.cons rfl (fun K hK=>?_) AllReadyH.nil
             go_simp
             refine (KLn1.out _).mono ?_
             rintro e wc0 ⟨rfl,hc0⟩
             refine hK.out _ _ ?_ (fun hN=>?_)
             ·exact HS22.out _ (hHeld.1.trans hc0)
             have hZ:=hZ.calm hc0
             clear hK K hHeld
             have hHeld:=hN
             clear hN
             try simp only [aP,Act.put]
             rotate_left
             refine wpAnyH_ready (rs:=[3,8]) (by kernel_rfl) (by simp) ?_
             refine AllReadyH.cons rfl (fun K hK=>?_) (AllReadyH.cons rfl (fun K hK=>?_) AllReadyH.nil)
             go_simp
             refine (KNr1.out _ hHeld.1).mono ?_
             rintro e wc1 ⟨rfl,hc1⟩
             refine hK.out _ _ ?_ (fun hN=>?_)
             ·exact HS22.out _ (hHeld.1.trans hc1)
             have hP2:=hHeld.1.size
             clear hK K hHeld
             have hHeld:=hN
             clear hN
             try simp only [aP,Act.put]
             rotate_left
             go_simp
             refine hK.out _ _ ?_ (fun hN=>?_)
             ·exact HS22.out _ (by first | exact hHeld.1.alloc _ | exact Below.drew ((Calm.refl _).alloc _))
             have hPre : Calm wb wc0:=hHeld.1
             have hLo:=hPre.size
             have hZ:=FiveB.new wc0 (.bool false) (.slice none 0 0) (.bool false) (.slice none 0 0) (.bool false) 52
             clear hK K hHeld
             have hHeld:=hN
             clear hN
             try simp only [aP,Act.put]
             iterate 2
              refine wpAnyH_ready (rs:=[3]) (by kernel_rfl) (by simp) ?_
              refine AllReadyH.cons rfl (fun K hK=>?_) AllReadyH.nil
              go_simp
              refine (KNr1.out _ hHeld.1).mono ?_
              rintro e wc1 ⟨rfl,hc1⟩
              refine hK.out _ _ ?_ (fun hN=>?_)
              ·exact HS22.out _ (hHeld.1.trans hc1)
              have hP2:=hHeld.1.size
              have hbP:=hZ.lt
              have hZ:=hZ.calm hc1
              clear hK K hHeld
              have hHeld:=hN
              clear hN
              try simp only [aP,Act.put]
              rotate_left
             iterate 3
              refine tk 4 rfl ?_
              try simp only [aP,Act.put]
              refine tk 5 rfl ?_
              try simp only [aP,Act.put]
              refine tk 6 rfl ?_
              try simp only [aP,Act.put]
              refine tk 7 rfl ?_
              try simp only [aP,Act.put]
              rotate_left
             refine wpAnyH_ready (rs:=[8]) (by kernel_rfl) (by simp) ?_
             refine AllReadyH.cons rfl (fun K hK=>?_) AllReadyH.nil
             go_simp
             refine hK.out _ _ ?_ (fun hN=>?_)
             ·exact HS22.out _ (by first | exact hHeld.1.alloc _ | exact Below.drew ((Calm.refl _).alloc _))
             have hPre : Calm wb wc1:=hHeld.1
             have hLo:=hPre.size
             have hZ:=FiveB.new wc1 (.bool false) (.slice none 0 0) (.bool false) (.slice none 0 0) (.bool false) 52
             clear hK K hHeld
             have hHeld:=hN
             clear hN
             try simp only [aP,Act.put]
             iterate 3
              have z:=hZ
              obtain ⟨-,z0,z1,z2,z3,z4,f⟩:=z
              have f0:=f 0
              have f1:=f 1
              have f2:=f 2
              have f3:=f 3
              have f4:=f 4
              refine wpAnyH_ready (rs:=[9]) (by kernel_rfl) (by simp) ?_
              refine AllReadyH.cons rfl (fun K hK=>?_) AllReadyH.nil
              go_simp
              refine hK.out _ _ ?_ (fun hN=>?_)
              ·first
                |exact HS22.out _ (calm5 hHeld.1 hLo _ _ _ _ _)
                |exact HS22.out _ (hPre.alloc _)
              clear hK K
              try simp only [aP,Act.put]
              refine tk 10 rfl ?_
              try simp only [aP,Act.put]
              refine tk 11 rfl ?_
              try simp only [aP,Act.put]
              refine wpAnyH_done (by kernel_rfl) ?_ _
              go_wp2_with fail
              go_meet
              case rel=>exact ⟨rfl,rfl,hN.1⟩
            case rest=>
             obtain ⟨rfl,rfl,HR2⟩:=hcut
             have HCc : Hid (Calm wz wc):=HCr2.out.trans (HCb.out.trans HR2.out)
             by_cases hxh0 : xh = 0
             ·subst hxh0
              have HJ2:=Lib.hid (HJ.out.miss HP.out (by rw [HXh.out]) (by rw [HXh.out]) (HCb.out.trans HR2.out))
              go_wp2_with fail
              go_roundw
              case rel=>exact ⟨i + 1,ys,by omega,by go_num,HJ2.out⟩
              case measure=>simp [intOf];omega
             ·have HNo:=Lib.hid (HRet.out (comOf_far (by rw [HX.out]) (by rw [HX.out]) (HJ.out.stop HP.out (by rw [HXh.out];exact hxh0))))
              have hb : (xh != 0) = true:=by simpa using hxh0
              clear hxh0
              go_wp2_with fail
              go_ret2
              exact ⟨by rw [HNo.out];exact entOutR_err _ _,HCw.out.trans HCc.out⟩
           |some q=>
            obtain ⟨rfl,hqe⟩ : xh = 0 ∧ q.excl = false:=by
             have h1 : (narR x1.e.rule p).1 = some q:=by rw [HXh.out]
             have h2:=narR_snd h1
             rw [HXh.out] at h2
             exact h2
            have hq1 : (narR x1.e.rule p).1 = some q:=by rw [HXh.out]
            have hqs:=narR_size hq1 (L:=250) (by decide) HSz.out.1.ls HSz.out.1.rs ((HSz.out.2.h p (List.mem_of_getElem? HP.out)).2)
            have hqg:=(backHs_len (r:=x1.e.rule) HGd.out.1.1 (hs:=[p]) (ks:=[q.left]) (by unfold backHs backHs;rw [HXh.out];rfl)).1 q.left (by simp)
            obtain ⟨ql,hql⟩ : ∃ ql,q.left.parts.length = ql:=⟨_,rfl⟩
            obtain ⟨qr,hqr⟩ : ∃ qr,q.right.parts.length = qr:=⟨_,rfl⟩
            obtain ⟨tql,htql⟩ : ∃ tql,q.left.rest = tql:=⟨_,rfl⟩
            obtain ⟨tqr,htqr⟩ : ∃ tqr,q.right.rest = tqr:=⟨_,rfl⟩
            have KNr1 : Hid (∀ X,Calm wb X → Calls Tryz.prog 30 #[.agg #[.bool false,.slice x1.LA n1l x1.lc,.bool b1l,.slice x1.RA n1r x1.rc,.bool b1r],.agg #[.slice Ap np cp,.bool rp]] X fun e w'=>(∃ a3,e = .returned (.tuple #[.agg #[.bool false,.slice a3.AL ql a3.cl,.bool tql,.slice a3.AR qr a3.cr,.bool tqr],.bool true,.int .i64 0]) ∧ RuleN w' X.heap.size a3 q) ∧ Calm X w'):=fun X hX=>(KNq.out X hX).mono fun e w' h=>by
             obtain ⟨h1,h2⟩:=h
             refine ⟨?_,h2⟩
             rcases h1 with ⟨h1,_⟩ | ⟨q',a3,h1,h3,h4⟩
             ·cases h1
             ·obtain rfl : q = q':=by simpa using h1
              refine ⟨a3,?_,h4⟩
              rw [h3]
              unfold ruleV
              rw [hqe,hql,hqr,htql,htqr]
            have HQ:=Lib.hid (And.intro hq1 (And.intro hqs (And.intro hqg (And.intro hql htql))))
            clear KNq KNr hq1 hqs hqg hqe hql hqr htql htqr
            go_cut [21,22,23] (fun s t u wx=>∃ B21 a3,s = .pointer (some ⟨B21,0,none⟩) ∧ t = .bool true ∧ u = .int .i64 0 ∧ Hid (LineB wb wx B21 wb.heap.size a3 q (.bool false) (.slice a3.AL ql a3.cl) (.bool tql) (.slice a3.AR qr a3.cr) (.bool tqr)))
            case first=>
             clear HRet HGo HOl HU HSz HGd HN1 HNh HFv HZ HRd HEnt HLen HSm HKC KC2 HC2 HC3 HV HT HRo HX1 HIn HWx HT2 HI2 HX2 HCw HCz HCr hcn hcc hcn2 hcc2 hnn HX HXh HJ HLx HP HPn HCr2 HLB KCh1 HMt HMz HM HCx HS14 HCb HWb HQ
             refine wp_region_held_drew (S:=fun X=>Calm wb X ∧ X.cell? ⟨B12,0,none⟩ = some (.slice x1.LA n1l x1.lc) ∧ X.cell? ⟨B12,1,none⟩ = some (.bool b1l) ∧ X.cell? ⟨B12,2,none⟩ = some (.slice x1.RA n1r x1.rc) ∧ X.cell? ⟨B12,3,none⟩ = some (.bool b1r) ∧ X.cell? ⟨B12,4,none⟩ = some (.slice x1.HA n1h x1.hc) ∧ X.cell? ⟨B20,0,none⟩ = some (.slice Ap np cp) ∧ X.cell? ⟨B20,1,none⟩ = some (.bool rp)) (by kernel_rfl) (HS22.out _ (Below.drew (Calm.refl _))) (fun hHeld=>?_)
             refine tk 0 rfl ?_
             try simp only [aP,Act.put]
             refine tk 2 rfl ?_
             try simp only [aP,Act.put]
             refine wpAnyH_ready (rs:=[1,8]) (by kernel_rfl) (by simp) ?_
             refine AllReadyH.cons rfl (fun K hK=>?_) (AllReadyH.cons rfl (fun K hK=>?_) AllReadyH.nil)
             go_simp
             refine (KLn1.out _).mono ?_
             rintro e wc0 ⟨rfl,hc0⟩
             refine hK.out _ _ ?_ (fun hN=>?_)
             ·exact HS22.out _ (hHeld.1.trans hc0)
             clear hK K hHeld
             have hHeld:=hN
             clear hN
             try simp only [aP,Act.put]
             rotate_left
             go_simp
             refine hK.out _ _ ?_ (fun hN=>?_)
             ·exact HS22.out _ (by first | exact hHeld.1.alloc _ | exact Below.drew ((Calm.refl _).alloc _))
             have hLo:=Nat.le_refl wb.heap.size
             have hZ:=five_drew wb 52 (v0:=.bool false) (v1:=.slice none 0 0) (v2:=.bool false) (v3:=.slice none 0 0) (v4:=.bool false)
             clear hK K hHeld
             have hHeld:=hN
             clear hN
             try simp only [aP,Act.put]
             refine wpAnyH_ready (rs:=[1]) (by kernel_rfl) (by simp) ?_
             refine AllReadyH.cons rfl (fun K hK=>?_) AllReadyH.nil
             go_simp
             refine (KLn1.out _).mono ?_
             rintro e wc0 ⟨rfl,hc0⟩
             refine hK.out _ _ ?_ (fun hN=>?_)
             ·exact HS22.out _ (hHeld.1.trans hc0)
             have hZ:=hZ.calm hc0
             clear hK K hHeld
             have hHeld:=hN
             clear hN
             try simp only [aP,Act.put]
             rotate_left
             refine wpAnyH_ready (rs:=[3,8]) (by kernel_rfl) (by simp) ?_
             refine AllReadyH.cons rfl (fun K hK=>?_) (AllReadyH.cons rfl (fun K hK=>?_) AllReadyH.nil)
             go_simp
             refine (KNr1.out _ hHeld.1).mono ?_
             rintro e wc1 ⟨⟨a3,rfl,hN2⟩,hc1⟩
             refine hK.out _ _ ?_ (fun hN=>?_)
             ·exact HS22.out _ (hHeld.1.trans hc1)
             have hP2:=hHeld.1.size
             clear hK K hHeld
             have hHeld:=hN
             clear hN
             try simp only [aP,Act.put]
             rotate_left
             go_simp
             refine hK.out _ _ ?_ (fun hN=>?_)
             ·exact HS22.out _ (by first | exact hHeld.1.alloc _ | exact Below.drew ((Calm.refl _).alloc _))
             have hPre : Calm wb wc0:=hHeld.1
             have hLo:=hPre.size
             have hZ:=FiveB.new wc0 (.bool false) (.slice none 0 0) (.bool false) (.slice none 0 0) (.bool false) 52
             clear hK K hHeld
             have hHeld:=hN
             clear hN
             try simp only [aP,Act.put]
             iterate 2
              refine wpAnyH_ready (rs:=[3]) (by kernel_rfl) (by simp) ?_
              refine AllReadyH.cons rfl (fun K hK=>?_) AllReadyH.nil
              go_simp
              refine (KNr1.out _ hHeld.1).mono ?_
              rintro e wc1 ⟨⟨a3,rfl,hN2⟩,hc1⟩
              refine hK.out _ _ ?_ (fun hN=>?_)
              ·exact HS22.out _ (hHeld.1.trans hc1)
              have hP2:=hHeld.1.size
              have hbP:=hZ.lt
              have hZ:=hZ.calm hc1
              clear hK K hHeld
              have hHeld:=hN
              clear hN
              try simp only [aP,Act.put]
              rotate_left
             iterate 3
              refine tk 4 rfl ?_
              try simp only [aP,Act.put]
              refine tk 5 rfl ?_
              try simp only [aP,Act.put]
              refine tk 6 rfl ?_
              try simp only [aP,Act.put]
              refine tk 7 rfl ?_
              try simp only [aP,Act.put]
              rotate_left
             refine wpAnyH_ready (rs:=[8]) (by kernel_rfl) (by simp) ?_
             refine AllReadyH.cons rfl (fun K hK=>?_) AllReadyH.nil
             go_simp
             refine hK.out _ _ ?_ (fun hN=>?_)
             ·exact HS22.out _ (by first | exact hHeld.1.alloc _ | exact Below.drew ((Calm.refl _).alloc _))
             have hPre : Calm wb wc1:=hHeld.1
             have hLo:=hPre.size
             have hZ:=FiveB.new wc1 (.bool false) (.slice none 0 0) (.bool false) (.slice none 0 0) (.bool false) 52
             clear hK K hHeld
             have hHeld:=hN
             clear hN
             try simp only [aP,Act.put]
             iterate 3
              have z:=hZ
              obtain ⟨-,z0,z1,z2,z3,z4,f⟩:=z
              have f0:=f 0
              have f1:=f 1
              have f2:=f 2
              have f3:=f 3
              have f4:=f 4
              refine wpAnyH_ready (rs:=[9]) (by kernel_rfl) (by simp) ?_
              refine AllReadyH.cons rfl (fun K hK=>?_) AllReadyH.nil
              go_simp
              refine hK.out _ _ ?_ (fun hN=>?_)
              ·first
                |exact HS22.out _ (calm5 hHeld.1 hLo _ _ _ _ _)
                |exact HS22.out _ (hPre.alloc _)
              clear hK K
              try simp only [aP,Act.put]
              refine tk 10 rfl ?_
              try simp only [aP,Act.put]
              refine tk 11 rfl ?_
              try simp only [aP,Act.put]
              refine wpAnyH_done (by kernel_rfl) ?_ _
              go_wp2_with fail
              go_meet
              case rel=>
               first
                |(refine ⟨_,a3,rfl,rfl,rfl,Lib.hid ?_⟩;with_reducible exact lineB_new hPre hP2 hN2)
                |(refine ⟨_,a3,rfl,rfl,rfl,Lib.hid ?_⟩;with_reducible exact lineB_set hZ hHeld.1 hLo hbP hP2 hN2)
            case rest=>
             obtain ⟨B21,a3,rfl,rfl,rfl,HR2⟩:=hcut
             have HCc : Hid (Calm wr2 wc):=HCb.out.trans HR2.out.calm
             have d:=HR2.out.five
             have d0:=d.c0
             have d1:=d.c1
             have d2:=d.c2
             have d3:=d.c3
             have d4:=d.c4
             have hn16 : SmallN wc wv.heap.size ⟨a3.AL,a3.cl,q.left⟩:=⟨HR2.out.new.l.mono (HJ.out.own.calm.trans HCb.out).size,by have:=(patErr_iff.1 HQ.out.2.2.1).2.2.1;show q.left.parts.length ≤ _;omega,fun s hs'=>by have:=HQ.out.2.1 s hs';omega⟩
             have HN16:=Lib.hid hn16
             have hlen : (lx ++ ys).length + 1 ≤ 1000000:=by
              have h1:=HJ.out.len HGd.out.1.1 (by rw [HNh.out.2];omega)
              have h2:=HLx.out.1
              rw [List.length_append]
              omega
             clear d hn16
             go_wp2_with (at_builtin;refine wpList_append_ps rfl (.tmp 86) (.tmp 89) rfl wv _ (lx ++ ys) [⟨a3.AL,a3.cl,q.left⟩] rfl (HJ.out.own.to (HCc.out.alloc _)) _ 1 1 rfl rfl (read_newH ⟨a3.AL,a3.cl,q.left⟩ rfl HQ.out.2.2.2.1 HQ.out.2.2.2.2) hlen ?_;intro v7 w7 hown7 hg7;obtain ⟨A7,c7,hv0⟩:=hown7.len_shape;obtain ⟨L7,hL7⟩ : ∃ L7,((lx ++ ys) ++ [(⟨a3.AL,a3.cl,q.left⟩ : NewP)]).length = L7:=⟨_,rfl⟩;rw [hL7] at hv0;subst hv0;clear hL7)
             have HJ2:=Lib.hid (HJ.out.hit (x:=⟨a3.AL,a3.cl,q.left⟩) HP.out (by rw [HXh.out]) HQ.out.1 rfl (HCc.out.alloc _) (HN16.out.calm ((Calm.refl _).alloc _)) hg7 hown7)
             go_roundw
             case rel=>exact ⟨i + 1,ys ++ [(⟨a3.AL,a3.cl,q.left⟩ : NewP)],by omega,by go_num,HJ2.out⟩
             case measure=>simp [intOf];omega
          ·obtain rfl : i = n2h:=by omega
           obtain ⟨A9,c9,hv9⟩:=HJ.out.own.len_shape
           obtain ⟨N9,hN9⟩ : ∃ N9,(lx ++ ys).length = N9:=⟨_,rfl⟩
           rw [hN9] at hv9
           subst hv9
           have hbk:=HJ.out.all (by rw [HNh.out.2];exact Nat.le_refl _)
           have hmap : (lx ++ ys).map (·.p) = x1.e.hs ++ ys.map (·.p):=by rw [List.map_append,HLx.out.2.1]
           obtain ⟨hs9,hhs9⟩ : ∃ hs9,x1.e.hs ++ ys.map (·.p) = hs9:=⟨_,rfl⟩
           have hlen9 : N9 ≤ 16384:=by
            have h1:=HJ.out.len HGd.out.1.1 (by rw [HNh.out.2];exact Nat.le_refl _)
            have h2:=HLx.out.1
            rw [← hN9,List.length_append]
            omega
           have HOf : Hid (comOf x1.e x2.e = putH m hs9):=by
            show _ = _
            rw [comOf_put (by rw [HX.out]) HM.out.1 hbk,hhs9]
           have hg9 : ∀ p ∈ hs9,patErr p = 0:=fun p hp=>by
            rw [← hhs9] at hp
            rcases List.mem_append.1 hp with hp | hp
            ·exact (gErr_zero HGd.out.1.2).2.1 p hp
            ·exact (backHs_len HGd.out.1.1 hbk).1 p hp
           have hP9 : PatsR wr2 A9 hs9:=by
            have hrd:=own_readsR HJ.out.own (fun z hz=>by
             rcases List.mem_append.1 hz with h | h
             ·exact (HLx.out.2.2.each z h).calm HJ.out.own.calm
             ·exact (HJ.out.each z h).a) (by rw [hN9];exact hlen9)
            rw [hmap,hhs9] at hrd
            exact hrd
           have hnew:=HLB.out.new
           have hcr:=HJ.out.own.calm
           have hws : w.heap.size ≤ wz.heap.size:=HCw.out.size
           have hL9 : SmallN wr2 w.heap.size ⟨a2.AL,a2.cl,m.left⟩:=⟨(hnew.l.calm hcr).mono hws,by have:=(patErr_iff.1 HMt.out.lp).2.2.1;show m.left.parts.length ≤ _;omega,fun s hs'=>by have:=HMz.out.1 s hs';omega⟩
           have hR9 : SmallN wr2 w.heap.size ⟨a2.AR,a2.cr,m.right⟩:=⟨(hnew.r.calm hcr).mono hws,by have:=(patErr_iff.1 HMt.out.rp).2.2.1;show m.right.parts.length ≤ _;omega,fun s hs'=>by have:=HMz.out.2.1 s hs';omega⟩
           have hlen : hs9.length = N9:=by rw [← hhs9,← hmap,List.length_map,hN9]
           have KP:=radd_f w wy wr2 u10 out2 zs2 m hs9 a2 false ml mr N9 c9 tl tr A9 HI2.out.1 (HCz.out.trans HCr2.out) (.inr hL9) (.inr hR9) hP9 hlen HMt.out.lp hg9 HM.out.2.1 HM.out.2.2.1 HM.out.2.2.2.1 HM.out.2.2.2.2 HOl.out
           have d:=HLB.out.five.calm hcr
           have d0:=d.c0
           have d1:=d.c1
           have d2:=d.c2
           have d3:=d.c3
           have d4:=d.c4
           obtain ⟨PH,hPH⟩ : ∃ PH,putH m hs9 = PH:=⟨_,rfl⟩
           rw [hPH] at HOf
           have HPH:=Lib.hid hPH
           have HKP:=Lib.hid KP
           have HF12:=Lib.hid (HFv.out.1.calm HCr2.out)
           clear hN9 hbk hmap hhs9 hlen9 hg9 hP9 hnew hcr hws hL9 hR9 hlen KP d hPH
           cases PH with
           |none=>
            have KP1 : Hid (Calls Tryz.prog 31 #[u10,.agg #[.bool false,.slice a2.AL ml a2.cl,.bool tl,.slice a2.AR mr a2.cr,.bool tr],.slice A9 N9 c9] wr2 fun e w'=>e = .returned (.tuple #[.slice none 0 0,.bool false]) ∧ Calm w w'):=HKP.out.mono fun e w' h=>h.none HPH.out
            have HNo:=Lib.hid (HRet.out HOf.out)
            go_wp2_with fail
            refine KP1.out.mono ?_
            rintro e w8 ⟨rfl,hc8⟩
            have HC8 : Hid (Calm w w8):=hc8
            clear hc8
            go_wp2_with fail
            go_ret2
            exact ⟨by rw [HNo.out];exact entOutR_err _ _,HC8.out⟩
           |some oo=>
            have KP1 : Hid (Calls Tryz.prog 31 #[u10,.agg #[.bool false,.slice a2.AL ml a2.cl,.bool tl,.slice a2.AR mr a2.cr,.bool tr],.slice A9 N9 c9] wr2 fun e w'=>∃ v' zs',e = .returned (.tuple #[v',.bool true]) ∧ RowV w w' v' (out2 ++ oo.toList) zs' ∧ FiveB w' B12 (.slice x1.LA n1l x1.lc) (.bool b1l) (.slice x1.RA n1r x1.rc) (.bool b1r) (.slice x1.HA n1h x1.hc) ∧ some B12 ≠ v'.ownBlock):=HKP.out.mono fun e w' h=>by
             obtain ⟨v',zs',h1,h2,h3,h4,h5⟩:=h.some HPH.out
             have hbk:=h5 B12 HF12.out.lt HI2.out.2.2
             refine ⟨v',zs',h1,h2,⟨Nat.lt_of_lt_of_le HF12.out.lt h4,(World.cell?_of_block (a:=⟨B12,0,none⟩) hbk).trans HF12.out.c0,(World.cell?_of_block (a:=⟨B12,1,none⟩) hbk).trans HF12.out.c1,(World.cell?_of_block (a:=⟨B12,2,none⟩) hbk).trans HF12.out.c2,(World.cell?_of_block (a:=⟨B12,3,none⟩) hbk).trans HF12.out.c3,(World.cell?_of_block (a:=⟨B12,4,none⟩) hbk).trans HF12.out.c4,fun o=>(World.frozen?_of_block (a:=⟨B12,o,none⟩) hbk).trans (HF12.out.fz o)⟩,?_⟩
             rcases h3 with h3 | ⟨gg,h3,hge⟩
             ·rw [h3];exact HI2.out.2.2
             ·rw [h3]
              intro e
              have:=HF12.out.lt
              obtain rfl:=Option.some.inj e
              omega
            have HG2:=Lib.hid (HGo.out oo HOf.out)
            go_wp2_with fail
            refine KP1.out.mono ?_
            rintro e w8 ⟨v8,zs8,rfl,h8⟩
            have H8:=Lib.hid h8
            clear h8
            go_wp2_with fail
            go_roundw
            case rel=>exact ⟨j + 1,out2 ++ oo.toList,zs8,by omega,by go_num,HG2.out,H8.out⟩
            case measure=>simp [intOf];omega
      ·obtain rfl : j = n2:=by omega
       go_wp2_with fail
       go_roundw
       case rel=>exact ⟨k + 1,out2,zs2,by omega,by go_num,by show _ = _;rw [pz_take HX1.out];have:=HT2.out;rw [List.take_of_length_le (l:=zb) (by rw [HLen.out.2.1];exact Nat.le_refl _)] at this;exact this,HI2.out.1⟩
       case measure=>simp [intOf];omega
    ·obtain rfl : k = n:=by omega
     have hfin : comL (pairsL es fs) = some out:=by
      rw [← HZ.out.1,← HZ.out.2,← pz_pr]
      have:=HT.out
      rw [List.take_of_length_le (l:=za) (by rw [HLen.out.1];exact Nat.le_refl _)] at this
      exact this
     have HFin:=Lib.hid (HV.out.2.2.1 out hfin)
     obtain ⟨A9,c9,rfl,r1,r2,r3⟩:=HRo.out.reads
     have HR:=Lib.hid (And.intro r1 (And.intro r2 r3))
     have HCr : Hid (Calm w wr):=HRo.out.own.calm
     obtain ⟨L9,hL9⟩ : ∃ L9,out.length = L9:=⟨_,rfl⟩
     have HL9:=Lib.hid hL9
     rw [hL9] at HFin ⊢
     clear r1 r2 r3 hL9 hfin
     by_cases h32 : 32 < L9
     ·have h32i : (32 : Int) < (L9 : Int):=by omega
      rw [if_pos h32] at HFin
      go_wp2_with fail
      go_ret2
      exact ⟨by rw [HFin.out];exact entOutR_err _ _,HCr.out⟩
     ·have h32i : ¬ (32 : Int) < (L9 : Int):=by omega
      rw [if_neg h32] at HFin
      go_wp2_with fail
      go_ret2
      exact ⟨by rw [HFin.out];exact ⟨A9,c9,by rw [HL9.out];rfl,HR.out.1,HR.out.2⟩,HCr.out⟩
  ·have HV:=HE1' h1
   have hb : (eb != 0) = true:=by simpa using h1
   clear HE1' HE2' h1
   go_wp2_with fail
   refine (KC2.out w2 HC2.out).mono ?_
   rintro e w3 ⟨rfl,hc3⟩
   have HC3 : Hid (Calm w w3):=HC2.out.trans hc3
   clear hc3
   go_wp2_with fail
   go_ret2
   exact ⟨by rw [HV.out];exact entOutR_err _ _,HC3.out⟩
 ·have HV:=HE0 h0
  have hb : (ea != 0) = true:=by simpa using h0
  clear HE0 HE1 HE2 h0
  go_wp2_with fail
  refine HKC.out.mono ?_
  rintro e w2 ⟨rfl,hc2⟩
  have HC2 : Hid (Calm w w2):=hc2
  clear hc2
  go_wp2_with fail
  go_ret2
  exact ⟨by rw [HV.out];exact entOutR_err _ _,HC2.out⟩
end Go.Proofs.YtnlnclefedohkaaGreatDoor
