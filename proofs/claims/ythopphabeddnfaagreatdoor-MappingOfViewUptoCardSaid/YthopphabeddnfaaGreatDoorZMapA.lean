/- Walks: an entry's line, its left region; whether it is an entry. -/
import Derived.Deep.DeepCutAuto
import Derived.Test.YthopphabeddnfaaGreatDoorZWalkI
import Derived.Test.YthopphabeddnfaaGreatDoorZCheckG
import Derived.Test.YthopphabeddnfaaGreatDoorZMapMem
import Derived.Test.YthopphabeddnfaaGreatDoorZEntM
import Derived.Test.YthopphabeddnfaaGreatDoorZMapL
import Derived.Test.YthopphabeddnfaaGreatDoorZNarW
set_option linter.unusedVariables false
set_option linter.unusedSimpArgs false
namespace Go.Proofs.YthopphabeddnfaaGreatDoor
open Go Go.RowKit Sy

theorem pcheckU_v (p : Pat) (v : Int) (A : Option Addr) (c : Nat) (w : World) (hv : patErr p = v) (hr : StrsU w A p.parts) (hnc : p.parts.length ≤ c) (hc47 : c ≤ 9223372036854775807) : Calls Tryz.prog 60 #[.agg #[.slice A p.parts.length c,.bool p.rest]] w fun e w'=>e = .returned (.int .i64 v) ∧ Calm w w':=hv ▸ pcheckG_c p A c w hr.toG hnc hc47
set_option maxHeartbeats 1000000 in
theorem gchecku_c (b : Pat) (hs : List Pat) (A : Option Addr) (c : Nat) (HA : Option Addr) (hc : Nat) (w : World) (hr : StrsU w A b.parts) (hnc : b.parts.length ≤ c) (hc47 : c ≤ 9223372036854775807) (hh : PatsU w HA hs) :
  Calls Tryz.prog 48 #[.agg #[.slice A b.parts.length c,.bool b.rest,.slice HA hs.length hc]] w fun e w'=>e = .returned (.int .i64 (regErr b hs)) ∧ Calm w w':=by
 have hlen:=hh.len
 obtain ⟨n,hn⟩ : ∃ n,hs.length = n:=⟨_,rfl⟩
 have Hn:=Lib.hid hn
 rw [hn] at hlen
 rw [hn]
 obtain ⟨pe,hpe⟩ : ∃ pe,patErr b = pe:=⟨_,rfl⟩
 obtain ⟨w1,hw1⟩ : ∃ w1,w1 = w.alloc (.cells #[.slice A b.parts.length c,.bool b.rest,.slice HA n hc] 48):=⟨_,rfl⟩
 have hc1 : Calm w w1:=by rw [hw1];exact (Calm.refl w).alloc _
 have hbox : w1.cell? ⟨w.heap.size,2,none⟩ = some (.slice HA n hc):=by rw [hw1];simp
 have hbs : w.heap.size < w1.heap.size:=by rw [hw1];simp
 have hcall:=pcheckU_v b pe A c w1 hpe (hr.calm hc1) hnc hc47
 have HH:=Lib.hid (hh.calm hc1)
 have HC:=Lib.hid hc1
 have HP:=Lib.hid hpe
 have HW:=Lib.hid hw1
 have HB:=Lib.hid hbox
 have HBS:=Lib.hid hbs
 clear hn hr hh hpe hw1 hc1 hbox hbs
 go_enter Tryz.func48,Tryz.ntmps48
 by_cases hb0 : pe = 0
 ·subst hb0
  have HPB : Hid (patErr b = 0):=HP.out
  go_wp2_with (go_at_call 60;rw [← HW.out];refine hcall.mono ?_;rintro e w2 ⟨rfl,hcw2⟩;have hbox2 : w2.cell? ⟨w.heap.size,2,none⟩ = some (.slice HA n hc):=(hcw2.cell (p:=⟨w.heap.size,2,none⟩) HBS.out).trans HB.out)
  have HC2:=Lib.hid hcw2
  clear hcall hcw2 hbox2
  go_loopw [12] (fun i wr=>∃ k : Nat,k ≤ n ∧ i = .int .i64 k ∧ Hid (∀ j h,j < k → hs[j]? = some h → patErr h = 0) ∧ Hid (Calm w1 wr)) (fun i _=>n - (intOf i).toNat)
  case atStart=>exact ⟨0,Nat.zero_le _,rfl,fun j h hj=>absurd hj (Nat.not_lt_zero _),HC2.out⟩
  case round=>
   obtain ⟨k,hk,rfl,HG,HCr⟩:=hrel
   by_cases hlt : k < n
   ·obtain ⟨bb,o,p,Ak,ck,rfl,_,hp,h1,h2,h3,h4,h5⟩:=(HH.out.calm HCr.out).get (k:=k) (by rw [Hn.out];exact hlt)
    have HP:=Lib.hid hp
    have H5:=Lib.hid h5
    obtain ⟨v,hv⟩ : ∃ v,patErr p = v:=⟨_,rfl⟩
    have HV:=Lib.hid hv
    clear hp h5 hv
    by_cases hv0 : v = 0
    ·subst hv0
     go_wp2_with (go_at_call 60;refine (pcheckU_v _ _ _ _ _ HV.out (H5.out.calm (((Calm.refl _).alloc _))) h3 h4).mono ?_;rintro e w3 ⟨rfl,hcw3⟩)
     go_roundw
     case rel=>exact ⟨k + 1,by omega,by go_num,good_holes HP.out HV.out HG.out,HCr.out.trans (((Calm.refl _).alloc _).trans hcw3)⟩
     case measure=>simp [intOf];omega
    ·have hvb : (v != 0) = true:=by simpa using hv0
     have hE : Hid (regErr b hs = 51):=regErr_hole HPB.out HP.out (by rw [HV.out];exact hv0)
     clear hv0
     go_wp2_with (go_at_call 60;refine (pcheckU_v _ _ _ _ _ HV.out (H5.out.calm (((Calm.refl _).alloc _))) h3 h4).mono ?_;rintro e w3 ⟨rfl,hcw3⟩)
     go_ret
     exact ⟨ret_int hE.out.symm,HC.out.trans (HCr.out.trans (((Calm.refl _).alloc _).trans hcw3))⟩
   ·have hbr : wr.cell? ⟨w.heap.size,2,none⟩ = some (.slice HA n hc):=(HCr.out.cell (p:=⟨w.heap.size,2,none⟩) HBS.out).trans HB.out
    have hE : Hid (regErr b hs = if 64 < n then 52 else 0):=by
     show regErr b hs = _
     rw [regErr_end HPB.out (fun j h hj=>HG.out j h (by rw [Hn.out] at hj;omega)),Hn.out]
    by_cases h64 : 64 < n
    ·go_wp2
     go_ret
     exact ⟨ret_int (by rw [hE.out,if_pos h64]),HC.out.trans HCr.out⟩
    ·go_wp2
     go_ret
     exact ⟨ret_int (by rw [hE.out,if_neg h64]),HC.out.trans HCr.out⟩
 ·have hv : Hid (regErr b hs = 50):=regErr_base (by rw [HP.out];exact hb0)
  have hbb : (pe != 0) = true:=by simpa using hb0
  clear hb0
  go_wp2_with (go_at_call 60;rw [← HW.out];refine hcall.mono ?_;rintro e w2 ⟨rfl,hcw2⟩)
  go_ret
  exact ⟨ret_int hv.out.symm,HC.out.trans hcw2⟩

end Go.Proofs.YthopphabeddnfaaGreatDoor
set_option linter.unusedVariables false
set_option linter.unusedSimpArgs false
namespace Go.Proofs.YthopphabeddnfaaGreatDoor
open Go Go.RowKit Sy

abbrev set3 (w : World) (b : Nat) (u0 u1 u2 : Value) : World:=((w.setCell ⟨b,0,none⟩ u0).setCell ⟨b,1,none⟩ u1).setCell ⟨b,2,none⟩ u2
theorem calm3' {w0 w : World} {b : Nat} (h : Calm w0 w) (hb : w0.heap.size ≤ b) (u0 u1 u2 : Value) : Calm w0 (set3 w b u0 u1 u2):=
 Below.setCell (p:=⟨b,2,none⟩) (Below.setCell (p:=⟨b,1,none⟩) (Below.setCell (p:=⟨b,0,none⟩) h hb _) hb _) hb _
theorem NewS.set3 {w : World} {B b c : Nat} {A : Option Addr} {ls : List Str} (h : NewS w B A c ls) (hb : b < B) (u0 u1 u2 : Value) : NewS (Go.Proofs.YthopphabeddnfaaGreatDoor.set3 w b u0 u1 u2) B A c ls:=
 ((h.set (p:=⟨b,0,none⟩) u0 hb).set (p:=⟨b,1,none⟩) u1 hb).set (p:=⟨b,2,none⟩) u2 hb
theorem PatsN.set3 {w : World} {B b c : Nat} {A : Option Addr} {ps : List Pat} (h : PatsN w B A c ps) (hb : b < B) (u0 u1 u2 : Value) : PatsN (Go.Proofs.YthopphabeddnfaaGreatDoor.set3 w b u0 u1 u2) B A c ps:=
 ((h.set (p:=⟨b,0,none⟩) u0 hb).set (p:=⟨b,1,none⟩) u1 hb).set (p:=⟨b,2,none⟩) u2 hb
structure ThreeB (w : World) (B : Nat) (v0 v1 v2 : Value) : Prop where
 lt : B < w.heap.size
 c0 : w.cell? ⟨B,0,none⟩ = some v0
 c1 : w.cell? ⟨B,1,none⟩ = some v1
 c2 : w.cell? ⟨B,2,none⟩ = some v2
 fz : ∀ o,w.frozen? ⟨B,o,none⟩ = false
theorem ThreeB.calm {w w' : World} {B : Nat} {v0 v1 v2 : Value} (h : ThreeB w B v0 v1 v2) (hc : Calm w w') : ThreeB w' B v0 v1 v2:=
 ⟨Nat.lt_of_lt_of_le h.lt hc.size,hc.at_ h.c0 h.lt,hc.at_ h.c1 h.lt,hc.at_ h.c2 h.lt,fun o=>(hc.frozen (p:=⟨B,o,none⟩) h.lt).trans (h.fz o)⟩
theorem ThreeB.new (w : World) (v0 v1 v2 : Value) (T : TypeId) : ThreeB (w.alloc (.cells #[v0,v1,v2] T)) w.heap.size v0 v1 v2:=
 ⟨by simp,by simp [go_sem],by simp [go_sem],by simp [go_sem],fun o=>by simp [go_sem]⟩

section
variable (LA RA HA : Option Addr) (nl lc nr rc hn hc : Nat) (lr rr : Bool)
abbrev entV : Value:=.agg #[.slice LA nl lc,.bool lr,.slice RA nr rc,.bool rr,.slice HA hn hc]
set_option maxHeartbeats 1000000 in
theorem line_c (w : World) : Calls Tryz.prog 25 #[entV LA RA HA nl lc nr rc hn hc lr rr] w fun e w'=>e = .returned (.agg #[.bool false,.slice LA nl lc,.bool lr,.slice RA nr rc,.bool rr]) ∧ Calm w w':=by
 go_enter Tryz.func25,Tryz.ntmps25
 go_wp2_with fail
 refine bodyPost_ret (v:=.agg #[.bool false,.slice LA nl lc,.bool lr,.slice RA nr rc,.bool rr]) ?_ rfl ⟨rfl,((Calm.refl w).alloc _).alloc _⟩
 rw [results_cell1 rfl]
 go_simp
set_option maxHeartbeats 1000000 in
theorem left_c (w : World) : Calls Tryz.prog 21 #[entV LA RA HA nl lc nr rc hn hc lr rr] w fun e w'=>e = .returned (.agg #[.slice LA nl lc,.bool lr,.slice HA hn hc]) ∧ Calm w w':=by
 go_enter Tryz.func21,Tryz.ntmps21
 go_wp2_with fail
 refine bodyPost_ret (v:=.agg #[.slice LA nl lc,.bool lr,.slice HA hn hc]) ?_ rfl ⟨rfl,((Calm.refl w).alloc _).alloc _⟩
 rw [results_cell1 rfl]
 go_simp
end
set_option maxHeartbeats 2000000 in
theorem isEntry_c (z : NewE) (nl nr hn : Nat) (lr rr : Bool) (w : World) (h : EntA w z) (hnl : z.e.left.parts.length = nl) (hnr : z.e.right.parts.length = nr) (hhn : z.e.hs.length = hn) (hlr : z.e.left.rest = lr) (hrr : z.e.right.rest = rr) :
  Calls Tryz.prog 18 #[entV z.LA z.RA z.HA nl z.lc nr z.rc hn z.hc lr rr] w fun e w'=>e = .returned (.bool (entryOk z.e)) ∧ Calm w w':=by
 obtain ⟨w1,hw1⟩ : ∃ w1,w1 = w.alloc (.cells #[.slice z.LA nl z.lc,.bool lr,.slice z.RA nr z.rc,.bool rr,.slice z.HA hn z.hc] 40):=⟨_,rfl⟩
 have hc1 : Calm w w1:=by rw [hw1];exact (Calm.refl w).alloc _
 have hb : FiveB w1 w.heap.size (.slice z.LA nl z.lc) (.bool lr) (.slice z.RA nr z.rc) (.bool rr) (.slice z.HA hn z.hc):=by
  rw [hw1]
  exact FiveB.new w _ _ _ _ _ _
 obtain ⟨v,hv⟩ : ∃ v,ruleErr z.e.rule = v:=⟨_,rfl⟩
 obtain ⟨u,hu⟩ : ∃ u,gErr z.e.reg = u:=⟨_,rfl⟩
 have KL : Hid (∀ W,Calls Tryz.prog 25 #[entV z.LA z.RA z.HA nl z.lc nr z.rc hn z.hc lr rr] W fun e w'=>e = .returned (.agg #[.bool false,.slice z.LA nl z.lc,.bool lr,.slice z.RA nr z.rc,.bool rr]) ∧ Calm W w'):=fun W=>line_c _ _ _ _ _ _ _ _ _ _ _ W
 have KG : Hid (∀ W,Calls Tryz.prog 21 #[entV z.LA z.RA z.HA nl z.lc nr z.rc hn z.hc lr rr] W fun e w'=>e = .returned (.agg #[.slice z.LA nl z.lc,.bool lr,.slice z.HA hn z.hc]) ∧ Calm W w'):=fun W=>left_c _ _ _ _ _ _ _ _ _ _ _ W
 have KR : Hid (∀ W,Calm w1 W → Calls Tryz.prog 34 #[.agg #[.bool false,.slice z.LA nl z.lc,.bool lr,.slice z.RA nr z.rc,.bool rr]] W fun e w'=>e = .returned (.int .i64 v) ∧ Calm W w'):=fun W hW=>by
  have:=rule_c z.e.rule z.pl W (h.calm (hc1.trans hW)).rule
  unfold ruleV Ent.rule NewE.pl at this
  simp only [hnl,hnr,hlr,hrr] at this
  rw [show (⟨false,z.e.left,z.e.right⟩ : Rule) = z.e.rule from rfl,hv] at this
  exact this
 have KC : Hid (∀ W,Calm w1 W → Calls Tryz.prog 48 #[.agg #[.slice z.LA nl z.lc,.bool lr,.slice z.HA hn z.hc]] W fun e w'=>e = .returned (.int .i64 u) ∧ Calm W w'):=fun W hW=>by
  have hh:=h.calm (hc1.trans hW)
  have:=gchecku_c z.e.left z.e.hs z.LA z.lc z.HA z.hc W hh.l hh.lroom hh.lcap hh.h
  rw [hnl,hlr,hhn,show regErr z.e.left z.e.hs = u from hu] at this
  exact this
 have HE : Hid (entryOk z.e = (v == 0 && u == 0)):=by
  show _ = _
  unfold entryOk
  rw [hv,hu]
 have HW:=Lib.hid hw1
 have HC:=Lib.hid hc1
 have HB:=Lib.hid hb
 have b0:=hb.c0
 have b1:=hb.c1
 have b2:=hb.c2
 have b3:=hb.c3
 have b4:=hb.c4
 clear hw1 hc1 hb h hnl hnr hhn hlr hrr hv hu
 go_enter Tryz.func18,Tryz.ntmps18
 have hcs : ((v == 0) = true ∧ v = 0) ∨ (v == 0) = false:=by
  by_cases h0 : v = 0
  ·exact .inl ⟨by rw [h0];rfl,h0⟩
  ·exact .inr (by rw [beq_eq_false_iff_ne];exact h0)
 rcases hcs with ⟨hv0,rfl⟩ | hv0
 ·obtain ⟨ub,hub⟩ : ∃ ub,(u == 0) = ub:=⟨_,rfl⟩
  have HEe : Hid (entryOk z.e = ub):=by
   show _ = _
   rw [HE.out,hub]
   rfl
  clear hv0
  go_wp2_with (first
   |(go_at_call 25;rw [← HW.out];refine (KL.out _).mono ?_;rintro e w2 ⟨rfl,hc2⟩)
   |(go_at_call 34;refine (KR.out w2 hc2).mono ?_;rintro e w3 ⟨rfl,hc3⟩;have HC3:=Lib.hid (hc2.trans hc3);have b3:=HB.out.calm HC3.out;have d0:=b3.c0;have d1:=b3.c1;have d2:=b3.c2;have d3:=b3.c3;have d4:=b3.c4)
   |(go_at_call 21;refine (KG.out _).mono ?_;rintro e w4 ⟨rfl,hc4⟩)
   |(go_at_call 48;refine (KC.out w4 (HC3.out.trans hc4)).mono ?_;rintro e w5 ⟨rfl,hc5⟩;have HC5:=Lib.hid (HC3.out.trans (hc4.trans hc5))))
  go_ret
  exact ⟨ret_bool HEe.out.symm,HC.out.trans HC5.out⟩
 ·have HEe : Hid (entryOk z.e = false):=by
   show _ = _
   rw [HE.out,hv0]
   rfl
  go_wp2_with (first
   |(go_at_call 25;rw [← HW.out];refine (KL.out _).mono ?_;rintro e w2 ⟨rfl,hc2⟩)
   |(go_at_call 34;refine (KR.out w2 hc2).mono ?_;rintro e w3 ⟨rfl,hc3⟩;have HC3:=Lib.hid (hc2.trans hc3)))
  go_ret
  exact ⟨ret_bool HEe.out.symm,HC.out.trans HC3.out⟩
end Go.Proofs.YthopphabeddnfaaGreatDoor
