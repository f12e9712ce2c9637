/- Walk: mapping.Agreement, where reduce does what it should. -/
import Derived.Test.YtnlnclefedohkaaGreatDoorZOvB
import Derived.Test.YtnlnclefedohkaaGreatDoorZAgrW
set_option linter.unusedVariables false
set_option linter.unusedSimpArgs false
namespace Go.Proofs.YtnlnclefedohkaaGreatDoor
open Go Go.RowKit Go.Shelf Sy
attribute [local go_sem] Oper.semAt_some
def AgAny (o : Option Pat × Int) (w' : World) (P : Nat) (Ap : Option Addr) (np cp : Nat) (rp okb : Bool) (xe : Int) : Prop:=
 (o.1 = none ∧ okb = false ∧ xe = o.2) ∨ ∃ p,o = (some p,0) ∧ okb = true ∧ xe = 0 ∧ p.parts.length = np ∧ p.rest = rp ∧ SmallN w' P ⟨Ap,cp,p⟩
theorem agAny_of {o : Option Pat × Int} {P : Nat} {e : Ending} {w' : World} (h : AgEnd o P e w') : ∃ Ap np cp rp okb xe,e = .returned (.tuple #[.agg #[.slice Ap np cp,.bool rp],.bool okb,.int .i64 xe]) ∧ AgAny o w' P Ap np cp rp okb xe:=by
 rcases h with ⟨h1,h2⟩ | ⟨p,A,c,h1,h2,h3⟩
 ·exact ⟨none,0,0,false,false,o.2,h2,.inl ⟨h1,rfl,rfl⟩⟩
 ·exact ⟨A,_,c,_,true,0,h2,.inr ⟨p,h1,rfl,rfl,rfl,rfl,h3⟩⟩
theorem AgAny.calm {o : Option Pat × Int} {w' w2 : World} {P : Nat} {Ap : Option Addr} {np cp : Nat} {rp okb : Bool} {xe : Int} (h : AgAny o w' P Ap np cp rp okb xe) (hc : Calm w' w2) : AgAny o w2 P Ap np cp rp okb xe:=by
 rcases h with h | ⟨p,h1,h2,h3,h4,h5,h6⟩
 ·exact .inl h
 ·exact .inr ⟨p,h1,h2,h3,h4,h5,h6.calm hc⟩
theorem AgAny.set {o : Option Pat × Int} {w' : World} {P : Nat} {Ap : Option Addr} {np cp : Nat} {rp okb : Bool} {xe : Int} (h : AgAny o w' P Ap np cp rp okb xe) {p : Addr} (u : Value) (hp : p.block < P) : AgAny o (w'.setCell p u) P Ap np cp rp okb xe:=by
 rcases h with h | ⟨q,h1,h2,h3,h4,h5,h6⟩
 ·exact .inl h
 ·exact .inr ⟨q,h1,h2,h3,h4,h5,smallN_set h6 u hp⟩
theorem AgAny.mono {o : Option Pat × Int} {w' : World} {P P' : Nat} {Ap : Option Addr} {np cp : Nat} {rp okb : Bool} {xe : Int} (h : AgAny o w' P Ap np cp rp okb xe) (hp : P' ≤ P) : AgAny o w' P' Ap np cp rp okb xe:=by
 rcases h with h | ⟨q,h1,h2,h3,h4,h5,h6⟩
 ·exact .inl h
 ·exact .inr ⟨q,h1,h2,h3,h4,h5,smallN_mono h6 hp⟩
structure AgAt (o : Option Pat × Int) (w5 wx : World) (b : Nat) (Ap : Option Addr) (np cp : Nat) (rp okb : Bool) (xe : Int) : Prop where
 calm : Calm w5 wx
 two : TwoB wx b (.slice Ap np cp) (.bool rp)
 any : AgAny o wx w5.heap.size Ap np cp rp okb xe
theorem agAt_new {o : Option Pat × Int} {w4 w7 : World} {P : Nat} {Ap : Option Addr} {np cp : Nat} {rp okb : Bool} {xe : Int} (hcy : Calm w4 w7) (hP : w4.heap.size ≤ P) (h : AgAny o w7 P Ap np cp rp okb xe) :
  AgAt o w4 (w7.alloc (.cells #[.slice Ap np cp,.bool rp] 40)) w7.heap.size Ap np cp rp okb xe:=
 ⟨hcy.alloc _,TwoB.new w7 _ _ _,(h.mono hP).calm ((Calm.refl w7).alloc _)⟩
theorem agAt_set {o : Option Pat × Int} {w4 w7 : World} {b P : Nat} {Ap : Option Addr} {np cp : Nat} {rp okb : Bool} {xe : Int} (hz : TwoB w7 b (.slice none 0 0) (.bool false)) (hcy : Calm w4 w7) (h4 : w4.heap.size ≤ b) (hb : b < P) (hP : w4.heap.size ≤ P) (h : AgAny o w7 P Ap np cp rp okb xe) :
  AgAt o w4 ((w7.setCell ⟨b,0,none⟩ (.slice Ap np cp)).setCell ⟨b,1,none⟩ (.bool rp)) b Ap np cp rp okb xe:=
 ⟨calm2b hcy h4 _ _,two_put hz _ _,((h.set (p:=⟨b,0,none⟩) _ hb).set (p:=⟨b,1,none⟩) _ hb).mono hP⟩
theorem ag_pat {a b : Rule} {p : Pat} (ha : ruleErr a = 0) (hb : ruleErr b = 0) (h : agE a b = (some p,0)) : patErr p = 0:=
 ((agE_mean (l:=[]) ha hb (by rw [h]) (by rfl)).1 p (by rw [h])).1
set_option maxRecDepth 100000 in
set_option maxHeartbeats 40000000 in
theorem mag_k (es fs : List Ent) (n c n2 c2 : Nat) (A A2 : Option Addr) (w : World) (h : EntsA w A es) (hcn : n ≤ c) (hcc : c ≤ 9223372036854775807) (hn : es.length = n) (hs : ∀ x ∈ es,SmallE x) (h2 : EntsA w A2 fs) (hcn2 : n2 ≤ c2) (hcc2 : c2 ≤ 9223372036854775807) (hn2 : fs.length = n2) (hs2 : ∀ x ∈ fs,SmallE x) (KRd : RedK) :
  Calls Tryz.prog 14 #[.slice A n c,.slice A2 n2 c2] w fun e w'=>RegOut (regsE agOf es fs).1 (regsE agOf es fs).2 w.heap.size e w' ∧ Calm w w':=by
 obtain ⟨er,her⟩ : ∃ er,bothM es fs = er:=⟨_,rfl⟩
 obtain ⟨w1,hw1⟩ : ∃ w1,w1 = ((w.alloc (.cells #[.slice none 0 0] 29)).alloc (.cells #[.int .i64 0] 25)).alloc (.cells #[.slice A n c,.slice A2 n2 c2] 22):=⟨_,rfl⟩
 obtain ⟨wR,hwR⟩ : ∃ wR,wR = (w.alloc (.cells #[.slice none 0 0] 29)).alloc (.cells #[.int .i64 0] 25):=⟨_,rfl⟩
 have hcR : Calm w wR:=by
  show Below _ _ _
  rw [hwR]
  exact ((Calm.refl w).alloc _).alloc _
 have hcR1 : Calm wR w1:=by
  show Below _ _ _
  rw [hw1,← hwR]
  exact (Calm.refl wR).alloc _
 have hc1 : Calm w w1:=hcR.trans hcR1
 have hb1 : Boxed wR w.heap.size 29 (.slice none 0 0):=by rw [hwR];exact (Boxed.new w _ _).alloc _
 have hb2 : Boxed wR (w.heap.size + 1) 25 (.int .i64 0):=by
  rw [hwR]
  have:=Boxed.new (w.alloc (.cells #[.slice none 0 0] 29)) 25 (.int .i64 0)
  simpa using this
 have hszR : wR.heap.size = w.heap.size + 1 + 1:=by rw [hwR];simp
 have hk0 : w1.cell? ⟨w.heap.size + 1 + 1,0,none⟩ = some (.slice A n c):=by rw [hw1];simp [go_sem]
 have hk1 : w1.cell? ⟨w.heap.size + 1 + 1,1,none⟩ = some (.slice A2 n2 c2):=by rw [hw1];simp [go_sem]
 have hg1 : w.heap.size + 1 + 1 < w1.heap.size:=by rw [hw1];simp [go_sem]
 have KC:=check2_c es fs n c n2 c2 (w.heap.size + 1 + 1) A A2 er w1 (h.calm hc1) hcn hcc hs hn (h2.calm hc1) hcn2 hcc2 hs2 hn2 her hk0 hk1 hg1
 have HE0 : er ≠ 0 → Hid (regsE agOf es fs = ([],er)):=fun h0=>by
  show regsE agOf es fs = _
  unfold bothM at her
  unfold regsE
  by_cases h1 : (mapE es).2 ≠ 0
  ·rw [if_pos h1] at her ⊢
   rw [her]
  ·rw [if_neg h1] at her ⊢
   rw [her,if_pos h0]
 have HE1 : er = 0 → Hid (Mapping es ∧ Mapping fs ∧ (∀ out,regsL agOf (pairsL es fs) = some out → regsE agOf es fs = if 32 < out.length then ([],72) else (out,0)) ∧ (regsL agOf (pairsL es fs) = none → regsE agOf es fs = ([],72))):=fun h0=>by
  have h1 : (mapE es).2 = 0:=by
   unfold bothM at her
   by_cases h1 : (mapE es).2 ≠ 0
   ·rw [if_pos h1] at her
    exact absurd (her.trans h0) h1
   ·simpa using h1
  have h3 : (mapE fs).2 = 0:=by
   unfold bothM at her
   rw [if_neg (by simpa using h1)] at her
   exact her.trans h0
  refine ⟨(mapE_zero h1).1,(mapE_zero h3).1,fun out ho=>?_,fun ho=>?_⟩
  ·unfold regsE
   rw [if_neg (by simpa using h1),if_neg (by simpa using h3),ho]
  ·unfold regsE
   rw [if_neg (by simpa using h1),if_neg (by simpa using h3),ho]
 obtain ⟨hl1,za,hza,hrA,heA⟩:=h
 obtain ⟨hl2,zb,hzb,hrB,heB⟩:=h2
 have hna : za.length = n:=by rw [← hn,← hza,List.length_map]
 have hnb : zb.length = n2:=by rw [← hn2,← hzb,List.length_map]
 have HZ:=Lib.hid (And.intro hza hzb)
 have HRd:=Lib.hid (And.intro hrA hrB)
 have HEnt:=Lib.hid (And.intro heA heB)
 have HLen:=Lib.hid (And.intro hna (And.intro hnb (And.intro (show n ≤ 1048576 by omega) (show n2 ≤ 1048576 by omega))))
 have HSm:=Lib.hid (And.intro hs hs2)
 have HKC:=Lib.hid KC
 have HRed : Hid RedK:=KRd
 have HW:=Lib.hid hw1
 have HCR:=Lib.hid (And.intro hcR (And.intro hcR1 (And.intro hb1 (And.intro hb2 hszR))))
 have q1:=(hb1.cell)
 have k1 : w1.cell? ⟨w.heap.size,0,none⟩ = some (.slice none 0 0):=hcR1.at_ hb1.cell hb1.lt
 have k2 : w1.cell? ⟨w.heap.size + 1,0,none⟩ = some (.int .i64 0):=hcR1.at_ hb2.cell hb2.lt
 clear hk0 hk1 hg1 hn hs hn2 hs2 KRd her hw1 hwR hcR hcR1 hc1 hb1 hb2 hszR KC hl1 hl2 hza hrA heA hzb hrB heB hna hnb q1 k1 k2
 refine (callsIn_wide (n:=9)).1 ?_
 refine callsIn_of_wp_marks Tryz.func14 rfl trivial ?_ rfl
 simp only [Tryz.ntmps14,List.size_toArray,List.length_cons,List.length_nil,Nat.reduceAdd,Nat.reduceSub,Array.replicate_succ,Array.replicate_zero,List.push_toArray,List.append_toArray,List.nil_append,List.cons_append]
 by_cases h0 : er = 0
 ·subst h0
  have HV:=HE1 rfl
  clear HE0 HE1
  gi_wp2_with fail
  rw [← HW.out]
  refine ⟨trivial,(callsIn_wide.2 HKC.out).mono ?_⟩
  rintro e w2 ⟨rfl,hc2⟩
  have HC2 : Hid (Calm w1 w2):=hc2
  obtain ⟨G,hG⟩ : ∃ G,w2.heap.size = G:=⟨_,rfl⟩
  obtain ⟨w3,hw3⟩ : ∃ w3,w3 = w2.alloc (.cells #[.slice none 0 0,.bool false] 70):=⟨_,rfl⟩
  obtain ⟨w5,hw5⟩ : ∃ w5,w5 = (w3.alloc (.cells #[.slice A n c] 22)).alloc (.cells #[.slice A2 n2 c2] 22):=⟨_,rfl⟩
  have hcRw2 : Calm wR w2:=HCR.out.2.1.trans hc2
  have hcol3 : ColB wR w3 G []:=by rw [hw3,← hG];exact colB_new hcRw2
  have hG3 : w3.heap.size = G + 1:=by rw [hw3,← hG];simp
  have hG5 : w5.heap.size = G + 1 + 1 + 1:=by rw [hw5];simp [hG3]
  have hc35 : Calm w3 w5:=by
   show Below _ _ _
   rw [hw5]
   exact ((Calm.refl w3).alloc _).alloc _
  have hcol5 : ColB wR w5 G []:=hcol3.to hc35
  have hgc : w3.cell? ⟨G,0,none⟩ = some (.slice none 0 0):=by rw [hw3,← hG];simp
  have hrow3 : RowIn G w3:=fun v hv g hg=>by
   rw [hgc] at hv
   cases hv
   cases hg
  have hk35 : KeepR w3 w5 G:=KeepR.calm (by omega) hc35
  have hs4 : Stay G (w3.alloc (.cells #[.slice A n c] 22)) (G + 1) #[.slice A n c] 22:=by
   have:=Stay.new hrow3 (show G < w3.heap.size by omega) #[.slice A n c] 22
   rwa [hG3] at this
  have hs5 : Stay G w5 (G + 1 + 1) #[.slice A2 n2 c2] 22:=by
   have h4 : KeepR w3 (w3.alloc (.cells #[.slice A n c] 22)) G:=KeepR.calm (by omega) ((Calm.refl _).alloc _)
   have:=Stay.new (h4.row hrow3) (show G < (w3.alloc (.cells #[.slice A n c] 22)).heap.size by simp [hG3];omega) #[.slice A2 n2 c2] 22
   rw [hw5]
   simpa [hG3] using this
  have hb5 : w5.cell? ⟨G + 1,0,none⟩ = some (.slice A n c):=by
   have : Stay G w5 (G + 1) #[.slice A n c] 22:=by
    rw [hw5]
    exact hs4.keep (KeepR.calm (by simp [hG3];omega) ((Calm.refl _).alloc _))
   exact this.cell rfl
  have hcw5 : Calm w w5:=by
   have h3 : Calm w2 w3:=by
    show Below _ _ _
    rw [hw3]
    exact (Calm.refl _).alloc _
   exact ((HCR.out.1.trans hcRw2).trans h3).trans hc35
  have HW3:=Lib.hid hw3
  have HW5:=Lib.hid hw5
  have HG:=Lib.hid hG
  have HG3:=Lib.hid hG3
  have HG5:=Lib.hid hG5
  have HCol:=Lib.hid hcol5
  have HSt:=Lib.hid (And.intro hb5 (And.intro hs5 (And.intro (hk35.row hrow3) hcw5)))
  have hRsz : w.heap.size ≤ wR.heap.size:=HCR.out.1.size
  have hRG : wR.heap.size ≤ G:=by rw [← hG];exact hcRw2.size
  clear hc2 hG hw3 hw5 hcRw2 hcol3 hG3 hc35 hcol5 hgc hrow3 hk35 hs4 hs5 hb5 hcw5
  gi_wp2_with fail
  rw [← HW3.out]
  refine ⟨trivial,(pairs_in _ A A2 n c n2 c2 w3).mono ?_⟩
  rintro e w' ⟨rfl,rfl⟩
  rw [← HW5.out,HG3.out,HG.out]
  gi_wp2_with fail
  refine wpIn_rangeFunc_ownH rfl (by decide) (gf:=50) (lb:=#[.pointer (some ⟨G + 1,0,none⟩),.pointer (some ⟨G + 1 + 1,0,none⟩)]) rfl trivial (enters_of Tryz.func50 (by kernel_rfl) rfl)
   (pairs_stops _ (by decide) w (G + 1) (G + 1 + 1) G A A2 n c n2 c2 za zb HRd.out.1 HRd.out.2 HLen.out.1 HLen.out.2.1 HLen.out.2.2.1 HLen.out.2.2.2 w5 HSt.out.2.2.2 HSt.out.1 HSt.out.2.1 HSt.out.2.2.1 (by have:=HG5.out;omega))
   (fun h k=>h.trans k) (fun W l o o' hl ho hc hw=>KpP.put o' (by have:=HG5.out;omega) (by have:=HG5.out;omega) ho hc hw) (Below.refl _ _) (fun _=>rfl)
   (fun pre W=>∃ out,regsL agOf (pre.map eP) = some out ∧ ColB wR W G out)
   (fun cc pre W=>(((cc = .ret ∧ regsL agOf (pre.map eP) = none) ∧ W.cell? ⟨w.heap.size,0,none⟩ = some (.slice none 0 0)) ∧ W.cell? ⟨w.heap.size + 1,0,none⟩ = some (.int .i64 72)) ∧ Below w.heap.size w W)
   (colB_own wR G (fun (pre : List (PairZ za zb)) out=>regsL agOf (pre.map eP) = some out) (by have:=HG5.out;omega))
   (fun cc=>OwnFrom.and (OwnFrom.and (OwnFrom.and (ownFrom_pure _ _) (cell_own _ (fun _=>_) _)) (cell_own _ (fun _=>_) _)) (ownFrom_below (Nat.le_refl _) (by have:=HG5.out;omega)))
   ⟨[],rfl,HCol.out⟩
   (fun x a' W=>∃ B8 B9,(Ent5 W B8 x.1.1 ∧ Ent5 W B9 x.1.2) ∧ a' = { tmps:=#[.slice A n c,.slice A2 n2 c2,undef,undef,.pointer (some ⟨w.heap.size,0,none⟩),.pointer (some ⟨w.heap.size + 1,0,none⟩),.int .i64 0,.pointer (some ⟨G,0,none⟩),.pointer (some ⟨B8,0,none⟩),.pointer (some ⟨B9,0,none⟩),undef,undef,undef,undef,undef,.slice A n c,.slice A2 n2 c2,.slice (some ⟨w.heap.size + 1 + 1,0,none⟩) 2 2,.int .i64 0,.int .i64 0,.bool false,undef,.slice A n c,.slice A2 n2 c2,.func (.func 50) #[] #[.pointer (some ⟨G + 1,0,none⟩),.pointer (some ⟨G + 1 + 1,0,none⟩)],entZ x.1.1,entZ x.1.2,undef,undef,undef,undef,undef,undef,undef,undef,undef,undef,undef,undef,undef,undef,undef,undef,undef,undef,undef,undef,undef,undef,undef,undef,undef,undef,undef,undef,undef,undef,undef,undef,undef,undef],defers:=[] })
   (fun x a' _ X Y row hs hg hr=>by
    obtain ⟨B8,B9,⟨e1,e2⟩,e3⟩:=hs
    have t:=Turn.of hg (fun r e=>(hr r e).2)
    exact ⟨B8,B9,⟨e1.turn t,e2.turn t⟩,e3⟩)
   ?assign ?body ?done ?stop
  case assign=>
   rintro l pre x W K ⟨out,hcl,hcol⟩ hK
   dsimp only [entZ,entV]
   gi_wp2
   have hGW:=hcol.lt
   have hRW:=hcol.calm.size
   have hc2 : Calm W ((W.alloc (.cells #[.slice x.1.1.LA x.1.1.e.left.parts.length x.1.1.lc,.bool x.1.1.e.left.rest,.slice x.1.1.RA x.1.1.e.right.parts.length x.1.1.rc,.bool x.1.1.e.right.rest,.slice x.1.1.HA x.1.1.e.hs.length x.1.1.hc] 43)).alloc (.cells #[.slice x.1.2.LA x.1.2.e.left.parts.length x.1.2.lc,.bool x.1.2.e.left.rest,.slice x.1.2.RA x.1.2.e.right.parts.length x.1.2.rc,.bool x.1.2.e.right.rest,.slice x.1.2.HA x.1.2.e.hs.length x.1.2.hc] 43)):=((Calm.refl W).alloc _).alloc _
   refine hK _ _ (((KeepsOthers.alloc _ _).trans (KeepsOthers.alloc _ _)).from _) ⟨Below.mono hc2 (by omega),KeepR.calm hGW hc2⟩ ⟨out,hcl,hcol.to hc2⟩ ⟨W.heap.size,W.heap.size + 1,⟨?_,?_⟩,rfl⟩
   ·exact Ent5.calm (World.alloc_heap_new W _) ((Calm.refl _).alloc _)
   ·have:=World.alloc_heap_new (W.alloc (.cells #[.slice x.1.1.LA x.1.1.e.left.parts.length x.1.1.lc,.bool x.1.1.e.left.rest,.slice x.1.1.RA x.1.1.e.right.parts.length x.1.1.rc,.bool x.1.1.e.right.rest,.slice x.1.1.HA x.1.1.e.hs.length x.1.1.hc] 43)) (.cells #[.slice x.1.2.LA x.1.2.e.left.parts.length x.1.2.lc,.bool x.1.2.e.left.rest,.slice x.1.2.RA x.1.2.e.right.parts.length x.1.2.rc,.bool x.1.2.e.right.rest,.slice x.1.2.HA x.1.2.e.hs.length x.1.2.hc] 43)
    rw [World.size_alloc] at this
    exact this
  case body=>
   rintro l pre x a' W hl ⟨r,hr⟩ ⟨out,hcl,hcol⟩ ⟨B8,B9,⟨h8,h9⟩,rfl⟩ hlt
   clear hlt hr
   obtain ⟨⟨x1,x2⟩,hxx⟩:=x
   obtain ⟨hx1,hx2⟩:=id hxx
   dsimp only at h8 h9 ⊢
   have hD5:=HG5.out
   have hcw : Calm w W:=HCR.out.1.trans hcol.calm
   have m1 : x1.e ∈ es:=by rw [← HZ.out.1];exact List.mem_map.2 ⟨x1,hx1,rfl⟩
   have m2 : x2.e ∈ fs:=by rw [← HZ.out.2];exact List.mem_map.2 ⟨x2,hx2,rfl⟩
   have g1:=HV.out.1.good x1.e m1
   have g2:=HV.out.2.1.good x2.e m2
   have s1:=HSm.out.1 _ m1
   have s2:=HSm.out.2 _ m2
   have u1:=entA_few ((HEnt.out.1 x1 hx1).calm hcw) s1 g1.2
   have u2:=entA_few ((HEnt.out.2 x2 hx2).calm hcw) s2 g2.2
   have r1 : SmallR x1.e.rule:=⟨by have:=s1.lp;show x1.e.left.parts.length ≤ _;omega,fun s hs'=>by have:=s1.ls s hs';omega,by have:=s1.rp;show x1.e.right.parts.length ≤ _;omega,fun s hs'=>by have:=s1.rs s hs';omega⟩
   have r2 : SmallR x2.e.rule:=⟨by have:=s2.lp;show x2.e.left.parts.length ≤ _;omega,fun s hs'=>by have:=s2.ls s hs';omega,by have:=s2.rp;show x2.e.right.parts.length ≤ _;omega,fun s hs'=>by have:=s2.rs s hs';omega⟩
   have b1:=boxed_calm HCR.out.2.2.1 hcol.calm
   have b2:=boxed_calm HCR.out.2.2.2.1 hcol.calm
   have hGW : G < W.heap.size:=hcol.lt
   have HGW : Hid (Calm wR W):=hcol.calm
   have HRet : Hid (agOf x1.e x2.e = none → ∀ X,Calm W X → KeepsFrom w5.heap.size W ((X.setCell ⟨w.heap.size,0,none⟩ (.slice none 0 0)).setCell ⟨w.heap.size + 1,0,none⟩ (.int .i64 72)) ∧ regsL agOf ((pre ++ [⟨(x1,x2),hxx⟩] : List (PairZ za zb)).map eP) = none ∧ ((X.setCell ⟨w.heap.size,0,none⟩ (.slice none 0 0)).setCell ⟨w.heap.size + 1,0,none⟩ (.int .i64 72)).cell? ⟨w.heap.size,0,none⟩ = some (.slice none 0 0) ∧ ((X.setCell ⟨w.heap.size,0,none⟩ (.slice none 0 0)).setCell ⟨w.heap.size + 1,0,none⟩ (.int .i64 72)).cell? ⟨w.heap.size + 1,0,none⟩ = some (.int .i64 72) ∧ Below w.heap.size w ((X.setCell ⟨w.heap.size,0,none⟩ (.slice none 0 0)).setCell ⟨w.heap.size + 1,0,none⟩ (.int .i64 72))):=fun hno X hX0=>by
    have hX : Calm wR X:=HGW.out.trans hX0
    have hkg : KeepH W X G:=KeepH.calm hX0
    have k1:=(boxed_calm HCR.out.2.2.1 hX).cell
    have k2:=(boxed_calm HCR.out.2.2.2.1 hX).cell
    refine ⟨(hkg.from hX0.size (by omega)).trans (((KeepsOthers.setCell _ _ _).trans (KeepsOthers.setCell _ _ _)).from _),?_,?_,?_,?_⟩
    ·have:=regsL_stop (f:=agOf) (pre:=pre.map eP) (post:=[]) (p:=(x1.e,x2.e)) hno
     rw [List.append_nil] at this
     rw [List.map_append]
     exact this
    ·exact (World.cell?_setCell_other _ _ _ _ (by simp)).trans (World.cell?_setCell_same' _ _ _ (by rw [k1];rfl))
    ·exact World.cell?_setCell_same' _ _ _ (by rw [World.cell?_setCell_other _ _ _ _ (by simp),k2];rfl)
    ·exact Below.setCell (p:=⟨w.heap.size + 1,0,none⟩) (Below.setCell (p:=⟨w.heap.size,0,none⟩) (HCR.out.1.trans hX) (Nat.le_refl _) _) (Nat.le_succ _) _
   have HGo : Hid (∀ o,agOf x1.e x2.e = some o → ∀ X,ColB wR X G (out ++ o.toList) → KeepH W X G → KeepR W X G → KeepsFrom w5.heap.size W X ∧ KpP w G W X ∧ ∃ out',regsL agOf ((pre ++ [⟨(x1,x2),hxx⟩] : List (PairZ za zb)).map eP) = some out' ∧ ColB wR X G out'):=fun o ho X hcX hkg hkr=>by
    refine ⟨hkg.from hkr.size (by omega),⟨below_two HGW.out hcX.calm hRsz hkr.size,hkr⟩,out ++ o.toList,?_,hcX⟩
    rw [List.map_append]
    exact regsL_step hcl ho
   obtain ⟨hs9,hhs9⟩ : ∃ hs9,x1.e.hs ++ x2.e.hs = hs9:=⟨_,rfl⟩
   obtain ⟨N9,hN9⟩ : ∃ N9,hs9.length = N9:=⟨_,rfl⟩
   have HPs : Hid ((∀ p ∈ hs9,patErr p = 0) ∧ hs9.length = N9):=⟨fun p hp=>by
    rw [← hhs9] at hp
    rcases List.mem_append.1 hp with hp | hp
    ·exact (gErr_zero g1.2).2.1 p hp
    ·exact (gErr_zero g2.2).2.1 p hp,hN9⟩
   obtain ⟨n1l,hn1l⟩ : ∃ n1l,x1.e.left.parts.length = n1l:=⟨_,rfl⟩
   obtain ⟨n1r,hn1r⟩ : ∃ n1r,x1.e.right.parts.length = n1r:=⟨_,rfl⟩
   obtain ⟨n1h,hn1h⟩ : ∃ n1h,x1.e.hs.length = n1h:=⟨_,rfl⟩
   obtain ⟨b1l,hb1l⟩ : ∃ b1l,x1.e.left.rest = b1l:=⟨_,rfl⟩
   obtain ⟨b1r,hb1r⟩ : ∃ b1r,x1.e.right.rest = b1r:=⟨_,rfl⟩
   obtain ⟨n2l,hn2l⟩ : ∃ n2l,x2.e.left.parts.length = n2l:=⟨_,rfl⟩
   obtain ⟨n2r,hn2r⟩ : ∃ n2r,x2.e.right.parts.length = n2r:=⟨_,rfl⟩
   obtain ⟨n2h,hn2h⟩ : ∃ n2h,x2.e.hs.length = n2h:=⟨_,rfl⟩
   obtain ⟨b2l,hb2l⟩ : ∃ b2l,x2.e.left.rest = b2l:=⟨_,rfl⟩
   obtain ⟨b2r,hb2r⟩ : ∃ b2r,x2.e.right.rest = b2r:=⟨_,rfl⟩
   have hl64 : n1h ≤ 64 ∧ n2h ≤ 64:=⟨by rw [← hn1h];exact (gErr_zero g1.2).2.2,by rw [← hn2h];exact (gErr_zero g2.2).2.2⟩
   have KCat : Hid (∀ X gg,Calm W X → X.cell? ⟨gg,0,none⟩ = some (.slice x1.HA n1h x1.hc) → X.cell? ⟨gg,1,none⟩ = some (.slice x2.HA n2h x2.hc) → gg < X.heap.size → Calls Tryz.prog 36 #[.slice (some ⟨gg,0,none⟩) 2 2] X fun e w'=>(∃ AC cC,e = .returned (.slice AC N9 cC) ∧ PatsR w' AC hs9) ∧ Calm X w'):=fun X gg hX k0 k1 hgg=>by
    have:=concat_c x1.e.hs x2.e.hs x1.HA x2.HA n1h n2h x1.hc x2.hc gg 2 X (u1.calm hX).h (u2.calm hX).h hn1h hn2h (by omega) k0 k1 hgg
    unfold CatEnd at this
    rw [hhs9,hN9] at this
    exact this
   have KLn1 : Hid (∀ X,Calls Tryz.prog 22 #[.agg #[.slice x1.LA n1l x1.lc,.bool b1l,.slice x1.RA n1r x1.rc,.bool b1r,.slice x1.HA n1h x1.hc]] X fun e w'=>e = .returned (.agg #[.bool false,.slice x1.LA n1l x1.lc,.bool b1l,.slice x1.RA n1r x1.rc,.bool b1r]) ∧ Calm X w'):=fun X=>line_c _ _ _ _ _ _ _ _ _ _ _ X
   have KLn2 : Hid (∀ X,Calls Tryz.prog 22 #[.agg #[.slice x2.LA n2l x2.lc,.bool b2l,.slice x2.RA n2r x2.rc,.bool b2r,.slice x2.HA n2h x2.hc]] X fun e w'=>e = .returned (.agg #[.bool false,.slice x2.LA n2l x2.lc,.bool b2l,.slice x2.RA n2r x2.rc,.bool b2r]) ∧ Calm X w'):=fun X=>line_c _ _ _ _ _ _ _ _ _ _ _ X
   have KAg : Hid (∀ X,Calm W X → Calls Tryz.prog 43 #[.agg #[.bool false,.slice x1.LA n1l x1.lc,.bool b1l,.slice x1.RA n1r x1.rc,.bool b1r],.agg #[.bool false,.slice x2.LA n2l x2.lc,.bool b2l,.slice x2.RA n2r x2.rc,.bool b2r]] X fun e w'=>(∃ Ap np cp rp okb xe,e = .returned (.tuple #[.agg #[.slice Ap np cp,.bool rp],.bool okb,.int .i64 xe]) ∧ AgAny (agE x1.e.rule x2.e.rule) w' X.heap.size Ap np cp rp okb xe) ∧ Calm X w'):=fun X hX=>by
    have v1:=u1.calm hX
    have v2:=u2.calm hX
    have:=agree_c x1.e.rule x2.e.rule x1.pl x2.pl X ⟨v1.l.r.toU,v1.r.r.toU,v1.l.room,v1.r.room,v1.l.cap,v1.r.cap⟩ r1 ⟨v2.l.r.toU,v2.r.r.toU,v2.l.room,v2.r.room,v2.l.cap,v2.r.cap⟩ r2 s1.ls s1.rs s2.ls s2.rs
    unfold ruleV Ent.rule NewE.pl at this
    simp only [hn1l,hn1r,hb1l,hb1r,hn2l,hn2r,hb2l,hb2r] at this
    exact this.mono fun e w' h=>⟨agAny_of h.1,h.2⟩
   have f8:=h8.five
   have f9:=h9.five
   rw [hn1l,hb1l,hn1r,hb1r,hn1h] at f8
   rw [hn2l,hb2l,hn2r,hb2r,hn2h] at f9
   have HV1 : Hid (entZ x1 = .agg #[.slice x1.LA n1l x1.lc,.bool b1l,.slice x1.RA n1r x1.rc,.bool b1r,.slice x1.HA n1h x1.hc]):=entZ_eq hn1l hn1r hn1h hb1l hb1r
   have HV2 : Hid (entZ x2 = .agg #[.slice x2.LA n2l x2.lc,.bool b2l,.slice x2.RA n2r x2.rc,.bool b2r,.slice x2.HA n2h x2.hc]):=entZ_eq hn2l hn2r hn2h hb2l hb2r
   have HU:=Lib.hid (And.intro u1 u2)
   have HGd:=Lib.hid (And.intro g1 g2)
   have HN1:=Lib.hid (And.intro hn1h hn2h)
   have HFv:=Lib.hid (And.intro f8 f9)
   have HCol:=Lib.hid hcol
   have HBx:=Lib.hid (And.intro b1 b2)
   have HHs:=Lib.hid hhs9
   have HS8 : Hid (∀ X,Calm W X → Calm W X ∧ X.cell? ⟨B8,0,none⟩ = some (.slice x1.LA n1l x1.lc) ∧ X.cell? ⟨B8,1,none⟩ = some (.bool b1l) ∧ X.cell? ⟨B8,2,none⟩ = some (.slice x1.RA n1r x1.rc) ∧ X.cell? ⟨B8,3,none⟩ = some (.bool b1r) ∧ X.cell? ⟨B8,4,none⟩ = some (.slice x1.HA n1h x1.hc) ∧ X.cell? ⟨B9,0,none⟩ = some (.slice x2.LA n2l x2.lc) ∧ X.cell? ⟨B9,1,none⟩ = some (.bool b2l) ∧ X.cell? ⟨B9,2,none⟩ = some (.slice x2.RA n2r x2.rc) ∧ X.cell? ⟨B9,3,none⟩ = some (.bool b2r) ∧ X.cell? ⟨B9,4,none⟩ = some (.slice x2.HA n2h x2.hc)):=fun X hX=>
    have a:=f8.calm hX
    have b:=f9.calm hX
    ⟨hX,a.c0,a.c1,a.c2,a.c3,a.c4,b.c0,b.c1,b.c2,b.c3,b.c4⟩
   clear f8 f9
   rw [HV1.out,HV2.out]
   clear hcw m1 m2 g1 g2 s1 s2 u1 u2 r1 r2 hcol hcl h8 h9 b1 b2 hn1l hn1r hn1h hb1l hb1r hn2l hn2r hn2h hb2l hb2r hhs9 hN9 hl64
   gi_wp2_with fail
   gi_cut [10,11,12] from 61 (fun s t u wx=>∃ B10 Ap np cp rp okb xe,s = .pointer (some ⟨B10,0,none⟩) ∧ t = .bool okb ∧ u = .int .i64 xe ∧ Hid (AgAt (agE x1.e.rule x2.e.rule) W wx B10 Ap np cp rp okb xe))
   case first=>
    clear HRet HGo HV1 HV2 HU HGd HN1 HFv HCol HBx HGW HZ HRd HEnt HLen HSm HRed HW HCR HV HW3 HW5 HG HG3 HG5 HSt hRsz hRG hGW hD5 hl hx1 hx2 hcn hcc hcn2 hcc2 HHs HPs KCat
    refine region_round (S:=fun X=>Calm W X ∧ X.cell? ⟨B8,0,none⟩ = some (.slice x1.LA n1l x1.lc) ∧ X.cell? ⟨B8,1,none⟩ = some (.bool b1l) ∧ X.cell? ⟨B8,2,none⟩ = some (.slice x1.RA n1r x1.rc) ∧ X.cell? ⟨B8,3,none⟩ = some (.bool b1r) ∧ X.cell? ⟨B8,4,none⟩ = some (.slice x1.HA n1h x1.hc) ∧ X.cell? ⟨B9,0,none⟩ = some (.slice x2.LA n2l x2.lc) ∧ X.cell? ⟨B9,1,none⟩ = some (.bool b2l) ∧ X.cell? ⟨B9,2,none⟩ = some (.slice x2.RA n2r x2.rc) ∧ X.cell? ⟨B9,3,none⟩ = some (.bool b2r) ∧ X.cell? ⟨B9,4,none⟩ = some (.slice x2.HA n2h x2.hc)) (by kernel_rfl) (by kernel_rfl) (fun ⟨_,_,h⟩=>h) (HS8.out _ (Below.drew (Calm.refl _))) (fun hHeld=>?_)
    refine tk 0 rfl ?_
    try simp only [aP,Act.put]
    refine tk 2 rfl ?_
    try simp only [aP,Act.put]
    refine wpAnyH_ready (rs:=[1,9]) (by kernel_rfl) (by simp) ?_
    refine AllReadyH.cons rfl (fun K hK=>?_) (AllReadyH.cons rfl (fun K hK=>?_) AllReadyH.nil)
    go_simp
    refine (KLn1.out _).mono ?_
    rintro e wc0 ⟨rfl,hc0⟩
    refine hK.out _ _ ?_ (fun hN=>?_)
    ·exact HS8.out _ (hHeld.1.trans hc0)
    clear hK K hHeld
    have hHeld:=hN
    clear hN
    try simp only [aP,Act.put]
    rotate_left
    go_simp
    refine hK.out _ _ ?_ (fun hN=>?_)
    ·exact HS8.out _ (by first | exact hHeld.1.alloc _ | exact Below.drew ((Calm.refl _).alloc _))
    have hLo:=Nat.le_refl W.heap.size
    have hZ : TwoB (W.alloc (.cells #[.slice none 0 0,.bool false] 40)).drew W.heap.size (.slice none 0 0) (.bool false):=(TwoB.new W _ _ _).calm (Below.drew (Calm.refl _))
    clear hK K hHeld
    have hHeld:=hN
    clear hN
    try simp only [aP,Act.put]
    iterate 1
     refine wpAnyH_ready (rs:=[1]) (by kernel_rfl) (by simp) ?_
     refine AllReadyH.cons rfl (fun K hK=>?_) AllReadyH.nil
     go_simp
     refine (KLn1.out _).mono ?_
     rintro e wc0 ⟨rfl,hc0⟩
     refine hK.out _ _ ?_ (fun hN=>?_)
     ·exact HS8.out _ (hHeld.1.trans hc0)
     have hZ:=hZ.calm hc0
     clear hK K hHeld
     have hHeld:=hN
     clear hN
     try simp only [aP,Act.put]
     rotate_left
    refine wpAnyH_ready (rs:=[3,9]) (by kernel_rfl) (by simp) ?_
    refine AllReadyH.cons rfl (fun K hK=>?_) (AllReadyH.cons rfl (fun K hK=>?_) AllReadyH.nil)
    go_simp
    refine (KLn2.out _).mono ?_
    rintro e wc1 ⟨rfl,hc1⟩
    refine hK.out _ _ ?_ (fun hN=>?_)
    ·exact HS8.out _ (hHeld.1.trans hc1)
    clear hK K hHeld
    have hHeld:=hN
    clear hN
    try simp only [aP,Act.put]
    rotate_left
    go_simp
    refine hK.out _ _ ?_ (fun hN=>?_)
    ·exact HS8.out _ (by first | exact hHeld.1.alloc _ | exact Below.drew ((Calm.refl _).alloc _))
    have hPre : Calm W wc0:=hHeld.1
    have hLo:=hPre.size
    have hZ : TwoB (wc0.alloc (.cells #[.slice none 0 0,.bool false] 40)) wc0.heap.size (.slice none 0 0) (.bool false):=TwoB.new wc0 _ _ _
    clear hK K hHeld
    have hHeld:=hN
    clear hN
    try simp only [aP,Act.put]
    iterate 2
     refine wpAnyH_ready (rs:=[3]) (by kernel_rfl) (by simp) ?_
     refine AllReadyH.cons rfl (fun K hK=>?_) AllReadyH.nil
     go_simp
     refine (KLn2.out _).mono ?_
     rintro e wc1 ⟨rfl,hc1⟩
     refine hK.out _ _ ?_ (fun hN=>?_)
     ·exact HS8.out _ (hHeld.1.trans hc1)
     have hZ:=hZ.calm hc1
     clear hK K hHeld
     have hHeld:=hN
     clear hN
     try simp only [aP,Act.put]
     rotate_left
    refine wpAnyH_ready (rs:=[4,9]) (by kernel_rfl) (by simp) ?_
    refine AllReadyH.cons rfl (fun K hK=>?_) (AllReadyH.cons rfl (fun K hK=>?_) AllReadyH.nil)
    go_simp
    refine (KAg.out _ hHeld.1).mono ?_
    rintro e wc2 ⟨⟨Ap,np,cp,rp,okb,xe,rfl,hN2⟩,hc2⟩
    refine hK.out _ _ ?_ (fun hN=>?_)
    ·exact HS8.out _ (hHeld.1.trans hc2)
    have hP2:=hHeld.1.size
    clear hK K hHeld
    have hHeld:=hN
    clear hN
    try simp only [aP,Act.put]
    rotate_left
    go_simp
    refine hK.out _ _ ?_ (fun hN=>?_)
    ·exact HS8.out _ (by first | exact hHeld.1.alloc _ | exact Below.drew ((Calm.refl _).alloc _))
    have hPre : Calm W wc1:=hHeld.1
    have hLo:=hPre.size
    have hZ : TwoB (wc1.alloc (.cells #[.slice none 0 0,.bool false] 40)) wc1.heap.size (.slice none 0 0) (.bool false):=TwoB.new wc1 _ _ _
    clear hK K hHeld
    have hHeld:=hN
    clear hN
    try simp only [aP,Act.put]
    iterate 3
     refine wpAnyH_ready (rs:=[4]) (by kernel_rfl) (by simp) ?_
     refine AllReadyH.cons rfl (fun K hK=>?_) AllReadyH.nil
     go_simp
     refine (KAg.out _ hHeld.1).mono ?_
     rintro e wc2 ⟨⟨Ap,np,cp,rp,okb,xe,rfl,hN2⟩,hc2⟩
     refine hK.out _ _ ?_ (fun hN=>?_)
     ·exact HS8.out _ (hHeld.1.trans hc2)
     have hP2:=hHeld.1.size
     have hbP:=hZ.lt
     have hZ:=hZ.calm hc2
     clear hK K hHeld
     have hHeld:=hN
     clear hN
     try simp only [aP,Act.put]
     rotate_left
    iterate 4
     refine tk 5 rfl ?_
     try simp only [aP,Act.put]
     refine tk 6 rfl ?_
     try simp only [aP,Act.put]
     refine tk 7 rfl ?_
     try simp only [aP,Act.put]
     refine tk 8 rfl ?_
     try simp only [aP,Act.put]
     rotate_left
    refine wpAnyH_ready (rs:=[9]) (by kernel_rfl) (by simp) ?_
    refine AllReadyH.cons rfl (fun K hK=>?_) AllReadyH.nil
    go_simp
    refine hK.out _ _ ?_ (fun hN=>?_)
    ·exact HS8.out _ (by first | exact hHeld.1.alloc _ | exact Below.drew ((Calm.refl _).alloc _))
    have hPre : Calm W wc2:=hHeld.1
    have hLo:=hPre.size
    have hZ : TwoB (wc2.alloc (.cells #[.slice none 0 0,.bool false] 40)) wc2.heap.size (.slice none 0 0) (.bool false):=TwoB.new wc2 _ _ _
    clear hK K hHeld
    have hHeld:=hN
    clear hN
    try simp only [aP,Act.put]
    iterate 4
     have z:=hZ
     obtain ⟨-,z0,z1,f⟩:=z
     have f0:=f 0
     have f1:=f 1
     refine wpAnyH_ready (rs:=[10]) (by kernel_rfl) (by simp) ?_
     refine AllReadyH.cons rfl (fun K hK=>?_) AllReadyH.nil
     go_simp
     refine hK.out _ _ ?_ (fun hN=>?_)
     ·first
       |exact HS8.out _ (calm2b hHeld.1 hLo _ _)
       |exact HS8.out _ (hPre.alloc _)
     clear hK K
     try simp only [aP,Act.put]
     refine tk 11 rfl ?_
     try simp only [aP,Act.put]
     refine tk 12 rfl ?_
     try simp only [aP,Act.put]
     refine wpAnyH_done (by kernel_rfl) ?_ _
     gi_wp2_with fail
     gi_meet
     case rel=>
      first
       |(refine ⟨_,Ap,np,cp,rp,okb,xe,rfl,rfl,rfl,Lib.hid ?_⟩;with_reducible exact agAt_new hPre hP2 hN2)
       |(refine ⟨_,Ap,np,cp,rp,okb,xe,rfl,rfl,rfl,Lib.hid ?_⟩;with_reducible exact agAt_set hZ hHeld.1 hLo hbP hP2 hN2)
   case rest=>
    obtain ⟨B10,Ap,np,cp,rp,okb,xe,rfl,rfl,rfl,HA⟩:=hcut
    obtain ⟨wb,rfl⟩ : ∃ wb,wb = wc:=⟨_,rfl⟩
    have HCb : Hid (Calm W wb):=HA.out.calm
    have HTb : Hid (TwoB wb B10 (.slice Ap np cp) (.bool rp)):=HA.out.two
    clear KLn1 KLn2 KAg HS8
    rcases HA.out.any with ⟨ho,rfl,rfl⟩ | ⟨p,ho,rfl,rfl,hpl,hpr,hSm⟩
    ·by_cases hx0 : (agE x1.e.rule x2.e.rule).2 = 0
     ·have HOf : Hid (agOf x1.e x2.e = some none):=by
       show agOf _ _ = _
       unfold agOf
       rw [if_neg (by simpa using hx0),ho]
      rw [hx0]
      clear ho hx0
      gi_wp2_with fail
      exact HGo.out none HOf.out wb (by rw [Option.toList_none,List.append_nil];exact HCol.out.to HCb.out) (KeepH.calm HCb.out) (KeepR.calm hGW HCb.out)
     ·have HOf : Hid (agOf x1.e x2.e = none):=by
       show agOf _ _ = _
       unfold agOf
       rw [if_pos hx0]
      obtain ⟨xe,hxe⟩ : ∃ xe,(agE x1.e.rule x2.e.rule).2 = xe:=⟨_,rfl⟩
      rw [hxe] at hx0 ⊢
      have hb : (xe != 0) = true:=by simpa using hx0
      have b1:=boxed_calm HBx.out.1 HCb.out
      have b2:=boxed_calm HBx.out.2 HCb.out
      have k1:=b1.cell
      have k2:=b2.cell
      have f1:=b1.frozen
      have f2:=b2.frozen
      clear b1 b2
      clear ho hx0 hxe
      gi_wp2_with fail
      have h:=HRet.out HOf.out wb HCb.out
      exact ⟨h.1,⟨⟨⟨rfl,h.2.1⟩,h.2.2.1⟩,h.2.2.2.1⟩,h.2.2.2.2⟩
    ·have HDef : Hid (agOf x1.e x2.e = redG p hs9):=by
      show agOf _ _ = _
      unfold agOf
      rw [ho]
      simp only [ne_eq,not_true_eq_false,if_false]
      rw [HHs.out]
     have hpg : patErr p = 0:=ag_pat HGd.out.1.1 HGd.out.2.1 ho
     have HP : Hid (PatA wb Ap cp p ∧ p.parts.length = np ∧ p.rest = rp ∧ patErr p = 0):=⟨hSm.a,hpl,hpr,hpg⟩
     have HX1:=HP
     have HWb:=HP
     have HLn:=HA
     clear ho hpl hpr hSm hpg HA
     gi_wp2_with fail
     have KRd1 : Hid (∀ X AC cC,Calm wb X → PatsR X AC hs9 → Calls Tryz.prog 35 #[.agg #[.slice Ap np cp,.bool rp],.slice AC N9 cC] X fun e w'=>(∃ A3 n3 c3 r3 HA3 m3 hc3 so er9,e = .returned (.tuple #[.agg #[.slice A3 n3 c3,.bool r3,.slice HA3 m3 hc3],.bool so,.int .i64 er9]) ∧ RdAny (redG p hs9) w' X.heap.size A3 n3 c3 r3 HA3 m3 hc3 so er9) ∧ Calm X w'):=fun X AC cC hX hAC=>
      (HRed.out p hs9 Ap cp AC np N9 cC rp X (HP.out.1.calm hX) hAC HP.out.2.1 HP.out.2.2.1 HPs.out.2 HP.out.2.2.2 HPs.out.1).mono fun e w' h=>⟨rdAny_of (HP.out.1.r.len) (HP.out.1.r.each) h.1,h.2⟩
     have HS10 : Hid (∀ X,Calm wb X → Calm wb X ∧ X.cell? ⟨B10,0,none⟩ = some (.slice Ap np cp) ∧ X.cell? ⟨B10,1,none⟩ = some (.bool rp) ∧ X.cell? ⟨B8,4,none⟩ = some (.slice x1.HA n1h x1.hc) ∧ X.cell? ⟨B9,4,none⟩ = some (.slice x2.HA n2h x2.hc)):=fun X hX=>by
      have a:=HFv.out.1.calm (HCb.out.trans hX)
      have b:=HFv.out.2.calm (HCb.out.trans hX)
      have d:=HTb.out.calm hX
      exact ⟨hX,d.c0,d.c1,a.c4,b.c4⟩
     have HGq : Hid (G + 1 ≤ wb.heap.size):=by have:=HCb.out.size;show G + 1 ≤ wb.heap.size;omega
     gi_cut [12,13,14] from 61 (fun u s t wx=>∃ B12 A3 n3 c3 r3 HA3 m3 hc3 so er9,s = .pointer (some ⟨B12,0,none⟩) ∧ t = .bool so ∧ u = .int .i64 er9 ∧ Hid (RdAt (redG p hs9) wb wx B12 (G + 1) A3 n3 c3 r3 HA3 m3 hc3 so er9))
     case first=>
      clear HRet HGo HV1 HV2 HU HGd HN1 HFv HCol HBx HGW HZ HRd HEnt HLen HSm HRed HW HCR HV HW3 HW5 HG HG3 HG5 HSt hRsz hRG hGW hD5 hl hx1 hx2 hcn hcc hcn2 hcc2 HHs HPs HP HWb HDef HX1 HLn
      refine region_round (S:=fun X=>Calm wb X ∧ X.cell? ⟨B10,0,none⟩ = some (.slice Ap np cp) ∧ X.cell? ⟨B10,1,none⟩ = some (.bool rp) ∧ X.cell? ⟨B8,4,none⟩ = some (.slice x1.HA n1h x1.hc) ∧ X.cell? ⟨B9,4,none⟩ = some (.slice x2.HA n2h x2.hc)) (by kernel_rfl) (by kernel_rfl) (fun ⟨_,_,h⟩=>h) (HS10.out _ (Below.drew (Calm.refl _))) (fun hHeld=>?_)
      refine tk 0 rfl ?_
      try simp only [aP,Act.put]
      refine tk 1 rfl ?_
      try simp only [aP,Act.put]
      refine tk 2 rfl ?_
      try simp only [aP,Act.put]
      refine tk 3 rfl ?_
      try simp only [aP,Act.put]
      refine tk 4 rfl ?_
      try simp only [aP,Act.put]
      refine wpAnyH_ready (rs:=[5,12]) (by kernel_rfl) (by simp) ?_
      refine AllReadyH.cons rfl (fun K hK=>?_) (AllReadyH.cons rfl (fun K hK=>?_) AllReadyH.nil)
      go_simp
      obtain ⟨wc0,hwc0⟩ : ∃ X,X = (wb.alloc (.cells #[.slice x1.HA n1h x1.hc,.slice x2.HA n2h x2.hc] 41)).drew:=⟨_,rfl⟩
      have hc0 : Calm wb wc0:=by
       show Below _ _ _
       rw [hwc0]
       exact (Below.drew ((Calm.refl _).alloc _))
      have kb0 : wc0.cell? ⟨wb.heap.size,0,none⟩ = some (.slice x1.HA n1h x1.hc):=by rw [hwc0];simp [go_sem]
      have kb1 : wc0.cell? ⟨wb.heap.size,1,none⟩ = some (.slice x2.HA n2h x2.hc):=by rw [hwc0];simp [go_sem]
      have kbl : wb.heap.size < wc0.heap.size:=by rw [hwc0];simp [go_sem]
      rw [← hwc0]
      clear hwc0
      refine hK.out _ _ ?_ (fun hN=>?_)
      ·exact HS10.out _ hc0
      clear hK K hHeld
      have hHeld:=hN
      clear hN
      try simp only [aP,Act.put]
      rotate_left
      go_simp
      refine hK.out _ _ ?_ (fun hN=>?_)
      ·exact HS10.out _ (by first | exact hHeld.1.alloc _ | exact Below.drew ((Calm.refl _).alloc _))
      have hLo:=Nat.le_refl wb.heap.size
      have hZ : ZeroAt (wb.alloc (.cells #[.slice none 0 0,.bool false,.slice none 0 0] 68)).drew wb.heap.size:=ZeroAt.calm (zero_c wb) (Below.drew (Calm.refl _))
      clear hK K hHeld
      have hHeld:=hN
      clear hN
      try simp only [aP,Act.put]
      iterate 1
       refine wpAnyH_ready (rs:=[5]) (by kernel_rfl) (by simp) ?_
       refine AllReadyH.cons rfl (fun K hK=>?_) AllReadyH.nil
       go_simp
       obtain ⟨wc0,hwc0⟩ : ∃ X,X = ((wb.alloc (.cells #[.slice none 0 0,.bool false,.slice none 0 0] 68)).alloc (.cells #[.slice x1.HA n1h x1.hc,.slice x2.HA n2h x2.hc] 41)).drew:=⟨_,rfl⟩
       have hc0 : Calm wb wc0:=by
        show Below _ _ _
        rw [hwc0]
        exact (Below.drew (((Calm.refl _).alloc _).alloc _))
       have kb0 : wc0.cell? ⟨wb.heap.size + 1,0,none⟩ = some (.slice x1.HA n1h x1.hc):=by rw [hwc0];simp [go_sem]
       have kb1 : wc0.cell? ⟨wb.heap.size + 1,1,none⟩ = some (.slice x2.HA n2h x2.hc):=by rw [hwc0];simp [go_sem]
       have kbl : wb.heap.size + 1 < wc0.heap.size:=by rw [hwc0];simp [go_sem]
       have hZ : ZeroAt wc0 wb.heap.size:=by rw [hwc0];exact zero_a wb _
       rw [← hwc0]
       clear hwc0
       refine hK.out _ _ ?_ (fun hN=>?_)
       ·exact HS10.out _ hc0
       clear hK K hHeld
       have hHeld:=hN
       clear hN
       try simp only [aP,Act.put]
       rotate_left
      refine wpAnyH_ready (rs:=[6,12]) (by kernel_rfl) (by simp) ?_
      refine AllReadyH.cons rfl (fun K hK=>?_) (AllReadyH.cons rfl (fun K hK=>?_) AllReadyH.nil)
      go_simp
      refine (KCat.out _ _ (HCb.out.trans hHeld.1) (by first | exact kb0 | exact Calm.at_ ((Calm.refl _).alloc _) kb0 kbl) (by first | exact kb1 | exact Calm.at_ ((Calm.refl _).alloc _) kb1 kbl) (by first | exact kbl | exact Nat.lt_of_lt_of_le kbl (Below.size ((Calm.refl _).alloc _)))).mono ?_
      rintro e wc1 ⟨⟨AC,cC,rfl,hP6⟩,hc1⟩
      refine hK.out _ _ ?_ (fun hN=>?_)
      ·exact HS10.out _ (hHeld.1.trans hc1)
      clear hK K hHeld
      have hHeld:=hN
      clear hN
      try simp only [aP,Act.put]
      rotate_left
      go_simp
      refine hK.out _ _ ?_ (fun hN=>?_)
      ·exact HS10.out _ (by first | exact hHeld.1.alloc _ | exact Below.drew ((Calm.refl _).alloc _))
      have hPre : Calm wb wc0:=hHeld.1
      have hLo:=hPre.size
      have hZ : ZeroAt (wc0.alloc (.cells #[.slice none 0 0,.bool false,.slice none 0 0] 68)) wc0.heap.size:=zero_c wc0
      clear hK K hHeld
      have hHeld:=hN
      clear hN
      try simp only [aP,Act.put]
      iterate 2
       refine wpAnyH_ready (rs:=[6]) (by kernel_rfl) (by simp) ?_
       refine AllReadyH.cons rfl (fun K hK=>?_) AllReadyH.nil
       go_simp
       refine (KCat.out _ _ (HCb.out.trans hHeld.1) (by first | exact kb0 | exact Calm.at_ ((Calm.refl _).alloc _) kb0 kbl) (by first | exact kb1 | exact Calm.at_ ((Calm.refl _).alloc _) kb1 kbl) (by first | exact kbl | exact Nat.lt_of_lt_of_le kbl (Below.size ((Calm.refl _).alloc _)))).mono ?_
       rintro e wc1 ⟨⟨AC,cC,rfl,hP6⟩,hc1⟩
       refine hK.out _ _ ?_ (fun hN=>?_)
       ·exact HS10.out _ (hHeld.1.trans hc1)
       have hZ:=hZ.calm hc1
       clear hK K hHeld
       have hHeld:=hN
       clear hN
       try simp only [aP,Act.put]
       rotate_left
      refine wpAnyH_ready (rs:=[7,12]) (by kernel_rfl) (by simp) ?_
      refine AllReadyH.cons rfl (fun K hK=>?_) (AllReadyH.cons rfl (fun K hK=>?_) AllReadyH.nil)
      go_simp
      refine (KRd1.out _ AC cC hHeld.1 (by first | exact hP6 | exact hP6.calm ((Calm.refl _).alloc _))).mono ?_
      rintro e wc2 ⟨⟨A3,n3,c3,r3,HA3,m3,hc3,so,er9,rfl,hR7⟩,hc2⟩
      refine hK.out _ _ ?_ (fun hN=>?_)
      ·exact HS10.out _ (hHeld.1.trans hc2)
      have hP2:=hHeld.1.size
      clear hK K hHeld
      have hHeld:=hN
      clear hN
      try simp only [aP,Act.put]
      rotate_left
      go_simp
      refine hK.out _ _ ?_ (fun hN=>?_)
      ·exact HS10.out _ (by first | exact hHeld.1.alloc _ | exact Below.drew ((Calm.refl _).alloc _))
      have hPre : Calm wb wc1:=hHeld.1
      have hLo:=hPre.size
      have hZ : ZeroAt (wc1.alloc (.cells #[.slice none 0 0,.bool false,.slice none 0 0] 68)) wc1.heap.size:=zero_c wc1
      clear hK K hHeld
      have hHeld:=hN
      clear hN
      try simp only [aP,Act.put]
      iterate 3
       refine wpAnyH_ready (rs:=[7]) (by kernel_rfl) (by simp) ?_
       refine AllReadyH.cons rfl (fun K hK=>?_) AllReadyH.nil
       go_simp
       refine (KRd1.out _ AC cC hHeld.1 (by first | exact hP6 | exact hP6.calm ((Calm.refl _).alloc _))).mono ?_
       rintro e wc2 ⟨⟨A3,n3,c3,r3,HA3,m3,hc3,so,er9,rfl,hR7⟩,hc2⟩
       refine hK.out _ _ ?_ (fun hN=>?_)
       ·exact HS10.out _ (hHeld.1.trans hc2)
       have hP2:=hHeld.1.size
       have hbP:=hZ.lt
       have hZ:=hZ.calm hc2
       clear hK K hHeld
       have hHeld:=hN
       clear hN
       try simp only [aP,Act.put]
       rotate_left
      iterate 4
       refine tk 8 rfl ?_
       try simp only [aP,Act.put]
       refine tk 9 rfl ?_
       try simp only [aP,Act.put]
       refine tk 10 rfl ?_
       try simp only [aP,Act.put]
       refine tk 11 rfl ?_
       try simp only [aP,Act.put]
       rotate_left
      refine wpAnyH_ready (rs:=[12]) (by kernel_rfl) (by simp) ?_
      refine AllReadyH.cons rfl (fun K hK=>?_) AllReadyH.nil
      go_simp
      refine hK.out _ _ ?_ (fun hN=>?_)
      ·exact HS10.out _ (by first | exact hHeld.1.alloc _ | exact Below.drew ((Calm.refl _).alloc _))
      have hPre : Calm wb wc2:=hHeld.1
      have hLo:=hPre.size
      have hZ : ZeroAt (wc2.alloc (.cells #[.slice none 0 0,.bool false,.slice none 0 0] 68)) wc2.heap.size:=zero_c wc2
      clear hK K hHeld
      have hHeld:=hN
      clear hN
      try simp only [aP,Act.put]
      iterate 4
       have z:=hZ
       obtain ⟨-,z0,z1,z2,f0,f1,f2⟩:=z
       refine wpAnyH_ready (rs:=[13]) (by kernel_rfl) (by simp) ?_
       refine AllReadyH.cons rfl (fun K hK=>?_) AllReadyH.nil
       go_simp
       refine hK.out _ _ ?_ (fun hN=>?_)
       ·first
         |exact HS10.out _ (calm3 (o:=0) hHeld.1 hLo _ _ _)
         |exact HS10.out _ (hPre.alloc _)
       clear hK K
       try simp only [aP,Act.put]
       refine tk 14 rfl ?_
       try simp only [aP,Act.put]
       refine tk 15 rfl ?_
       try simp only [aP,Act.put]
       refine wpAnyH_done (by kernel_rfl) ?_ _
       gi_wp2_with fail
       gi_meet
       case rel=>
        first
         |(refine ⟨_,A3,n3,c3,r3,HA3,m3,hc3,so,er9,rfl,rfl,rfl,Lib.hid ?_⟩;with_reducible exact rdAt_new hPre (Nat.le_trans HGq.out hP2) hR7)
         |(refine ⟨_,A3,n3,c3,r3,HA3,m3,hc3,so,er9,rfl,rfl,rfl,Lib.hid ?_⟩;with_reducible exact rdAt_set hZ hHeld.1 hLo hbP (Nat.le_trans HGq.out hP2) hR7)
     case rest=>
      obtain ⟨B12,A3,n3,c3,r3,HA3,m3,hc3,so,er9,rfl,rfl,rfl,HR⟩:=hcut
      have HC2 : Hid (Calm W wc):=HCb.out.trans HR.out.calm
      have e0:=HR.out.c0
      have e1:=HR.out.c1
      have e2:=HR.out.c2
      clear KRd1 HS10 KCat
      rcases HR.out.any with ⟨ho,rfl,rfl⟩ | ⟨ho,rfl,rfl⟩ | ⟨g,ho,rfl,rfl,e3,e4,e5,hreg⟩
      ·have HOf : Hid (agOf x1.e x2.e = none):=HDef.out.trans ho
       have b1:=boxed_calm HBx.out.1 HC2.out
       have b2:=boxed_calm HBx.out.2 HC2.out
       have k1:=b1.cell
       have k2:=b2.cell
       have f1:=b1.frozen
       have f2:=b2.frozen
       clear b1 b2
       clear ho e0 e1 e2
       gi_wp2_with fail
       have h:=HRet.out HOf.out wc HC2.out
       exact ⟨h.1,⟨⟨⟨rfl,h.2.1⟩,h.2.2.1⟩,h.2.2.2.1⟩,h.2.2.2.2⟩
      ·have HOf : Hid (agOf x1.e x2.e = some none):=HDef.out.trans ho
       clear ho e0 e1 e2
       gi_wp2_with fail
       exact HGo.out none HOf.out wc (by rw [Option.toList_none,List.append_nil];exact HCol.out.to HC2.out) (KeepH.calm HC2.out) (KeepR.calm hGW HC2.out)
      ·have HOf : Hid (agOf x1.e x2.e = some (some g)):=HDef.out.trans ho
       have KAd:=addG_n wR W wc G out ⟨A3,c3,HA3,hc3,g⟩ n3 m3 r3 HCol.out HC2.out hreg e3 e5 e4
       have KAd1 : Hid (Calls Tryz.prog 37 #[.pointer (some ⟨G,0,none⟩),.agg #[.slice A3 n3 c3,.bool r3,.slice HA3 m3 hc3]] wc fun e w'=>e = .returned (.tuple #[]) ∧ ColB wR w' G (out ++ [g]) ∧ KeepH W w' G ∧ KeepR W w' G):=KAd.mono fun e w' h=>⟨h.1,h.2.1,KeepH.after HC2.out h.2.2.2.1,(KeepR.calm hGW HC2.out).trans h.2.2.2.2⟩
       clear ho e3 e4 e5 hreg KAd
       gi_wp2_with fail
       refine ⟨trivial,(calls_round KAd1.out).mono ?_⟩
       rintro e w8 ⟨rfl,hcb,hkg,hkr⟩
       gi_wp2_with fail
       exact HGo.out (some g) HOf.out w8 hcb hkg hkr
  case done=>
   rintro D ys W hD hS ⟨out,hcl,hcol⟩ hK
   have hD5:=HG5.out
   have hcw : Calm w W:=HCR.out.1.trans hcol.calm
   have hpl : regsL agOf (pairsL es fs) = some out:=by
    rw [← HZ.out.1,← HZ.out.2,← pz_e hS]
    exact hcl
   have HV2:=Lib.hid (HV.out.2.2.1 out hpl)
   have b1:=boxed_calm HCR.out.2.2.1 hcol.calm
   have b2:=boxed_calm HCR.out.2.2.2.1 hcol.calm
   have k1:=b1.cell
   have k2:=b2.cell
   have f1:=b1.frozen
   have f2:=b2.frozen
   have HF:=colB_fin wR W G out hcol
   have HCw:=Lib.hid hcw
   have hbd : w.heap.size < wR.heap.size ∧ w.heap.size + 1 < wR.heap.size:=by have:=HCR.out.2.2.2.2;omega
   clear b1 b2 hcol hcl hS hcw hpl HV
   rcases HF with ⟨h32,KF⟩ | ⟨h32,A9,c9,hF,KF⟩
   ·rw [if_pos h32] at HV2
    gi_wp2_with fail
    refine ⟨trivial,(callsIn_wide.2 KF).mono ?_⟩
    rintro e w' ⟨rfl,hww⟩
    obtain rfl : W = w':=hww.symm
    gi_wp2_with fail
    have r1 : ((W.setCell ⟨w.heap.size,0,none⟩ (.slice none 0 0)).setCell ⟨w.heap.size + 1,0,none⟩ (.int .i64 72)).cell? ⟨w.heap.size,0,none⟩ = some (.slice none 0 0):=(World.cell?_setCell_other _ _ _ _ (by simp)).trans (World.cell?_setCell_same' _ _ _ (by rw [k1];rfl))
    have r2 : ((W.setCell ⟨w.heap.size,0,none⟩ (.slice none 0 0)).setCell ⟨w.heap.size + 1,0,none⟩ (.int .i64 72)).cell? ⟨w.heap.size + 1,0,none⟩ = some (.int .i64 72):=World.cell?_setCell_same' _ _ _ (by rw [World.cell?_setCell_other _ _ _ _ (by simp),k2];rfl)
    have hK2:=(KeepsOthers.setCell (W.setCell ⟨w.heap.size,0,none⟩ (.slice none 0 0)) ⟨w.heap.size + 1,0,none⟩ (.int .i64 72)).same D _ ((KeepsOthers.setCell W ⟨w.heap.size,0,none⟩ (.slice none 0 0)).same D _ hK rfl) rfl
    have t : Turn ((W.setCell ⟨w.heap.size,0,none⟩ (.slice none 0 0)).setCell ⟨w.heap.size + 1,0,none⟩ (.int .i64 72)) (((W.setCell ⟨w.heap.size,0,none⟩ (.slice none 0 0)).setCell ⟨w.heap.size + 1,0,none⟩ (.int .i64 72)).putObj D (.deferred none)):=Turn.of (grownBy_putObj' _ D _) (fun r e=>by cases e;exact ⟨_,hK2,rfl⟩)
    have s1:=t.cell r1
    have s2:=t.cell r2
    refine ⟨by simp,.inl ⟨_,_,rfl,run_takeDeferred hK2,?_⟩⟩
    refine ⟨.tuple #[.slice none 0 0,.int .i64 72],?_,?_,?_⟩
    ·rw [results_cc rfl]
     simp [go_sem,s1,s2,Result.andThen]
    ·rw [HV2.out]
     exact regOut_err _ _ _
    ·exact Below.trans (Below.setCell (p:=⟨w.heap.size + 1,0,none⟩) (Below.setCell (p:=⟨w.heap.size,0,none⟩) HCw.out (Nat.le_refl _) _) (Nat.le_succ _) _) (belowK_b (w:=w) (Nat.le_refl _) _ D _ _ (by omega) hK2 rfl rfl)
   ·rw [if_neg (by omega)] at HV2
    obtain ⟨L9,hL9⟩ : ∃ L9,out.length = L9:=⟨_,rfl⟩
    have HL9:=Lib.hid hL9
    have HF9:=Lib.hid hF
    rw [hL9] at KF
    clear hL9 hF
    gi_wp2_with fail
    refine ⟨trivial,(callsIn_wide.2 KF).mono ?_⟩
    rintro e w' ⟨rfl,hww⟩
    obtain rfl : W = w':=hww.symm
    gi_wp2_with fail
    have r1 : ((W.setCell ⟨w.heap.size,0,none⟩ (.slice A9 L9 c9)).setCell ⟨w.heap.size + 1,0,none⟩ (.int .i64 0)).cell? ⟨w.heap.size,0,none⟩ = some (.slice A9 L9 c9):=(World.cell?_setCell_other _ _ _ _ (by simp)).trans (World.cell?_setCell_same' _ _ _ (by rw [k1];rfl))
    have r2 : ((W.setCell ⟨w.heap.size,0,none⟩ (.slice A9 L9 c9)).setCell ⟨w.heap.size + 1,0,none⟩ (.int .i64 0)).cell? ⟨w.heap.size + 1,0,none⟩ = some (.int .i64 0):=World.cell?_setCell_same' _ _ _ (by rw [World.cell?_setCell_other _ _ _ _ (by simp),k2];rfl)
    have hK2:=(KeepsOthers.setCell (W.setCell ⟨w.heap.size,0,none⟩ (.slice A9 L9 c9)) ⟨w.heap.size + 1,0,none⟩ (.int .i64 0)).same D _ ((KeepsOthers.setCell W ⟨w.heap.size,0,none⟩ (.slice A9 L9 c9)).same D _ hK rfl) rfl
    have t : Turn ((W.setCell ⟨w.heap.size,0,none⟩ (.slice A9 L9 c9)).setCell ⟨w.heap.size + 1,0,none⟩ (.int .i64 0)) (((W.setCell ⟨w.heap.size,0,none⟩ (.slice A9 L9 c9)).setCell ⟨w.heap.size + 1,0,none⟩ (.int .i64 0)).putObj D (.deferred none)):=Turn.of (grownBy_putObj' _ D _) (fun r e=>by cases e;exact ⟨_,hK2,rfl⟩)
    have s1:=t.cell r1
    have s2:=t.cell r2
    refine ⟨by simp,.inl ⟨_,_,rfl,run_takeDeferred hK2,?_⟩⟩
    refine ⟨.tuple #[.slice A9 L9 c9,.int .i64 0],?_,?_,?_⟩
    ·rw [results_cc rfl]
     simp [go_sem,s1,s2,Result.andThen]
    ·rw [HV2.out]
     have hf:=((HF9.out.set (p:=⟨w.heap.size,0,none⟩) (.slice A9 L9 c9) hbd.1).set (p:=⟨w.heap.size + 1,0,none⟩) (.int .i64 0) hbd.2).turn t
     have:=hf.out (B:=w.heap.size) hRsz
     rw [HL9.out] at this
     exact this
    ·exact Below.trans (Below.setCell (p:=⟨w.heap.size + 1,0,none⟩) (Below.setCell (p:=⟨w.heap.size,0,none⟩) HCw.out (Nat.le_refl _) _) (Nat.le_succ _) _) (belowK_b (w:=w) (Nat.le_refl _) _ D _ _ (by omega) hK2 rfl rfl)
  case stop=>
   rintro D cc pre W hD hSp ⟨⟨⟨⟨rfl,hno⟩,k1⟩,k2⟩,hB⟩ hK
   have hD5:=HG5.out
   have HV2 : Hid (regsE agOf es fs = ([],72)):=HV.out.2.2.2 (by rw [← HZ.out.1,← HZ.out.2];exact regs_stop hSp hno)
   gi_wp2_with fail
   have t : Turn W (W.putObj D (.deferred none)):=Turn.of (grownBy_putObj' W D _) (fun r e=>by cases e;exact ⟨_,hK,rfl⟩)
   refine ⟨by simp,.inl ⟨_,_,rfl,run_takeDeferred hK,?_⟩⟩
   have r1:=t.cell k1
   have r2:=t.cell k2
   refine ⟨.tuple #[.slice none 0 0,.int .i64 72],?_,?_,?_⟩
   ·rw [results_cc rfl]
    simp [go_sem,r1,r2,Result.andThen]
   ·rw [HV2.out]
    exact regOut_err _ _ _
   ·exact Below.trans hB (belowK_b (w:=w) (Nat.le_refl _) W D _ _ (by omega) hK rfl rfl)
 ·have HV:=HE0 h0
  have hb : (er != 0) = true:=by simpa using h0
  clear HE0 HE1 h0
  gi_wp2_with fail
  rw [← HW.out]
  refine ⟨trivial,(callsIn_wide.2 HKC.out).mono ?_⟩
  rintro e w2 ⟨rfl,hc2⟩
  have hcw : Calm wR w2:=HCR.out.2.1.trans hc2
  have b1:=boxed_calm HCR.out.2.2.1 hcw
  have b2:=boxed_calm HCR.out.2.2.2.1 hcw
  have k1:=b1.cell
  have k2:=b2.cell
  have f1:=b1.frozen
  have f2:=b2.frozen
  have HCw : Hid (Calm w w2):=HCR.out.1.trans hcw
  clear b1 b2 hcw hc2
  gi_wp2_with fail
  have r1 : ((w2.setCell ⟨w.heap.size,0,none⟩ (.slice none 0 0)).setCell ⟨w.heap.size + 1,0,none⟩ (.int .i64 er)).cell? ⟨w.heap.size,0,none⟩ = some (.slice none 0 0):=(World.cell?_setCell_other _ _ _ _ (by simp)).trans (World.cell?_setCell_same' _ _ _ (by rw [k1];rfl))
  have r2 : ((w2.setCell ⟨w.heap.size,0,none⟩ (.slice none 0 0)).setCell ⟨w.heap.size + 1,0,none⟩ (.int .i64 er)).cell? ⟨w.heap.size + 1,0,none⟩ = some (.int .i64 er):=World.cell?_setCell_same' _ _ _ (by rw [World.cell?_setCell_other _ _ _ _ (by simp),k2];rfl)
  refine ⟨.tuple #[.slice none 0 0,.int .i64 er],?_,?_,?_⟩
  ·rw [results_cc rfl]
   simp [go_sem,r1,r2,Result.andThen]
  ·rw [HV.out]
   exact regOut_err _ _ _
  ·exact Below.setCell (p:=⟨w.heap.size + 1,0,none⟩) (Below.setCell (p:=⟨w.heap.size,0,none⟩) HCw.out (Nat.le_refl _) _) (Nat.le_succ _) _
end Go.Proofs.YtnlnclefedohkaaGreatDoor
