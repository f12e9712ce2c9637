/- Walks: an entry's line, its left region; whether it is an entry. -/
import Derived.Deep.DeepCutAuto
import Derived.Test.YtnlnclefedohkaaGreatDoorZCopyP
import Derived.Test.YtnlnclefedohkaaGreatDoorZConcatP
import Derived.Test.YtnlnclefedohkaaGreatDoorZEntM
import Derived.Test.YtnlnclefedohkaaGreatDoorZWalkI
import Derived.Test.YtnlnclefedohkaaGreatDoorZCheckG
import Derived.Test.YtnlnclefedohkaaGreatDoorZCommonP
import Derived.Test.YtnlnclefedohkaaGreatDoorZNarW
set_option linter.unusedVariables false
set_option linter.unusedSimpArgs false
namespace Go.Proofs.YtnlnclefedohkaaGreatDoor
open Go Go.RowKit Sy

end Go.Proofs.YtnlnclefedohkaaGreatDoor
set_option linter.unusedVariables false
set_option linter.unusedSimpArgs false
namespace Go.Proofs.YtnlnclefedohkaaGreatDoor
open Go Go.RowKit Sy

end Go.Proofs.YtnlnclefedohkaaGreatDoor
set_option linter.unusedVariables false
set_option linter.unusedSimpArgs false
namespace Go.Proofs.YtnlnclefedohkaaGreatDoor
open Go Go.RowKit Sy
structure PatsU (w : World) (A : Option Addr) (ps : List Pat) : Prop where
 len : ps.length ≤ 1048576
 at_ : 0 < ps.length → ∃ b o,A = some ⟨b,o,none⟩ ∧ b < w.heap.size ∧ ∀ (k : Nat) p,ps[k]? = some p → ∃ Ak ck,w.cell? ⟨b,o + k * 2,none⟩ = some (.slice Ak p.parts.length ck) ∧ w.cell? ⟨b,o + k * 2 + 1,none⟩ = some (.bool p.rest) ∧ p.parts.length ≤ ck ∧ ck ≤ 9223372036854775807 ∧ StrsU w Ak p.parts
theorem PatsU.calm {w w' : World} {A : Option Addr} {ps : List Pat} (h : PatsU w A ps) (hc : Calm w w') : PatsU w' A ps:=
 ⟨h.len,fun h0=>by
  obtain ⟨b,o,rfl,hb,hk⟩:=h.at_ h0
  refine ⟨b,o,rfl,Nat.lt_of_lt_of_le hb hc.size,fun k p hp=>?_⟩
  obtain ⟨Ak,ck,h1,h2,h3,h4,h5⟩:=hk k p hp
  exact ⟨Ak,ck,(hc.cell (p:=⟨b,o + k * 2,none⟩) hb).trans h1,(hc.cell (p:=⟨b,o + k * 2 + 1,none⟩) hb).trans h2,h3,h4,h5.calm hc⟩⟩
theorem PatsU.get {w : World} {A : Option Addr} {ps : List Pat} (h : PatsU w A ps) {k : Nat} (hk : k < ps.length) : ∃ b o p Ak ck,A = some ⟨b,o,none⟩ ∧ b < w.heap.size ∧ ps[k]? = some p ∧ w.cell? ⟨b,o + k * 2,none⟩ = some (.slice Ak p.parts.length ck) ∧ w.cell? ⟨b,o + k * 2 + 1,none⟩ = some (.bool p.rest) ∧ p.parts.length ≤ ck ∧ ck ≤ 9223372036854775807 ∧ StrsU w Ak p.parts:=by
 obtain ⟨b,o,hA,hb,hc⟩:=h.at_ (by omega)
 obtain ⟨Ak,ck,h1,h2,h3,h4,h5⟩:=hc k _ (List.getElem?_eq_getElem hk)
 exact ⟨b,o,ps[k],Ak,ck,hA,hb,List.getElem?_eq_getElem hk,h1,h2,h3,h4,h5⟩
theorem PatsU.toR {w : World} {A : Option Addr} {ps : List Pat} (h : PatsU w A ps) (h1 : ps.length ≤ 16384) (h2 : ∀ p ∈ ps,p.parts.length ≤ 16384 ∧ ∀ l ∈ p.parts,l.length ≤ 16384) : PatsR w A ps:=
 ⟨h1,fun h0=>by
  obtain ⟨b,o,hA,hb,hk⟩:=h.at_ h0
  refine ⟨b,o,hA,hb,fun k p hp=>?_⟩
  obtain ⟨Ak,ck,g1,g2,g3,g4,g5⟩:=hk k p hp
  have:=h2 p (List.mem_of_getElem? hp)
  exact ⟨Ak,ck,g1,g2,g3,g4,g5.toR this.1 this.2⟩⟩
theorem PatsU.places {w : World} {A : Option Addr} {ps : List Pat} (h : PatsU w A ps) : ∃ l : List NewP,l.map (·.p) = ps ∧ ReadX encP 2 w A l ∧ ∀ x ∈ l,x.p.parts.length ≤ x.c ∧ x.c ≤ 9223372036854775807 ∧ StrsU w x.A x.p.parts:=by
 rcases Nat.eq_zero_or_pos ps.length with h0 | h0
 ·have : ps = []:=List.eq_nil_of_length_eq_zero h0
  subst this
  exact ⟨[],rfl,fun h=>absurd rfl h,fun x hx=>by cases hx⟩
 ·obtain ⟨b,o,hA,hb,hk⟩:=h.at_ h0
  have each : ∀ k,k < ps.length → ∃ x : NewP,ps[k]? = some x.p ∧ w.cell? ⟨b,o + k * 2,none⟩ = some (.slice x.A x.p.parts.length x.c) ∧ w.cell? ⟨b,o + k * 2 + 1,none⟩ = some (.bool x.p.rest) ∧ x.p.parts.length ≤ x.c ∧ x.c ≤ 9223372036854775807 ∧ StrsU w x.A x.p.parts:=fun k hk2=>by
   obtain ⟨Ak,ck,g1,g2,g3,g4,g5⟩:=hk k _ (List.getElem?_eq_getElem hk2)
   exact ⟨⟨Ak,ck,ps[k]⟩,List.getElem?_eq_getElem hk2,g1,g2,g3,g4,g5⟩
  obtain ⟨f,hf⟩ : ∃ f : Nat → NewP,∀ k,k < ps.length → ps[k]? = some (f k).p ∧ w.cell? ⟨b,o + k * 2,none⟩ = some (.slice (f k).A (f k).p.parts.length (f k).c) ∧ w.cell? ⟨b,o + k * 2 + 1,none⟩ = some (.bool (f k).p.rest) ∧ (f k).p.parts.length ≤ (f k).c ∧ (f k).c ≤ 9223372036854775807 ∧ StrsU w (f k).A (f k).p.parts:=by
   refine ⟨fun k=>if hk2 : k < ps.length then Classical.choose (each k hk2) else default,fun k hk2=>?_⟩
   simp only [dif_pos hk2]
   exact Classical.choose_spec (each k hk2)
  refine ⟨(List.range ps.length).map f,?_,fun _=>⟨b,o,hA,hb,fun k x hx i u hu=>?_⟩,fun x hx=>?_⟩
  ·refine List.ext_getElem? fun k=>?_
   rw [List.getElem?_map,List.getElem?_map]
   by_cases hk2 : k < ps.length
   ·rw [List.getElem?_range hk2,(hf k hk2).1]
    rfl
   ·rw [List.getElem?_eq_none (by simpa using hk2),List.getElem?_eq_none (by omega)]
    rfl
  ·rw [List.getElem?_map] at hx
   obtain ⟨k',hk',rfl⟩:=Option.map_eq_some_iff.1 hx
   obtain ⟨hlt,he⟩:=List.getElem?_eq_some_iff.1 hk'
   rw [List.getElem_range] at he
   subst he
   rw [List.length_range] at hlt
   obtain ⟨_,g1,g2,_⟩:=hf k hlt
   match i,hu with
   |0,hu=>
    obtain rfl:=Option.some.inj hu
    exact g1
   |1,hu=>
    obtain rfl:=Option.some.inj hu
    exact g2
   |(n + 2),hu=>simp [encP] at hu
  ·obtain ⟨k,hk2,rfl⟩:=List.mem_map.1 hx
   obtain ⟨_,_,_,g3,g4,g5⟩:=hf k (List.mem_range.1 hk2)
   exact ⟨g3,g4,g5⟩
structure EntA (w : World) (z : NewE) : Prop where
 l : StrsU w z.LA z.e.left.parts
 r : StrsU w z.RA z.e.right.parts
 h : PatsU w z.HA z.e.hs
 lroom : z.e.left.parts.length ≤ z.lc
 rroom : z.e.right.parts.length ≤ z.rc
 hroom : z.e.hs.length ≤ z.hc
 lcap : z.lc ≤ 9223372036854775807
 rcap : z.rc ≤ 9223372036854775807
 hcap : z.hc ≤ 9223372036854775807
theorem EntA.calm {w w' : World} {z : NewE} (h : EntA w z) (hc : Calm w w') : EntA w' z:=⟨h.l.calm hc,h.r.calm hc,h.h.calm hc,h.lroom,h.rroom,h.hroom,h.lcap,h.rcap,h.hcap⟩
def NewE.pl (z : NewE) : Pl:=⟨z.LA,z.lc,z.RA,z.rc⟩
theorem EntA.rule {w : World} {z : NewE} (h : EntA w z) : RuleU w z.pl z.e.rule:=⟨h.l,h.r,h.lroom,h.rroom,h.lcap,h.rcap⟩
structure SizeE (K : Nat) (x : Ent) : Prop where
 lp : x.left.parts.length ≤ 300
 ls : ∀ s ∈ x.left.parts,s.length ≤ K
 rp : x.right.parts.length ≤ 300
 rs : ∀ s ∈ x.right.parts,s.length ≤ K
 h : ∀ p ∈ x.hs,p.parts.length ≤ 300 ∧ ∀ s ∈ p.parts,s.length ≤ K
abbrev SmallE (x : Ent) : Prop:=SizeE 250 x
theorem SizeE.mono {K L : Nat} {x : Ent} (h : SizeE K x) (hk : K ≤ L) : SizeE L x:=⟨h.lp,fun s hs=>Nat.le_trans (h.ls s hs) hk,h.rp,fun s hs=>Nat.le_trans (h.rs s hs) hk,fun p hp=>⟨(h.h p hp).1,fun s hs=>Nat.le_trans ((h.h p hp).2 s hs) hk⟩⟩
theorem EntA.u {w : World} {z : NewE} (h : EntA w z) (hs : SmallE z.e) (hl : z.e.hs.length ≤ 16384) : EntU w z:=
 ⟨⟨h.l.toR (by have:=hs.lp;omega) (fun s hs'=>by have:=hs.ls s hs';omega),h.lroom,h.lcap⟩,⟨h.r.toR (by have:=hs.rp;omega) (fun s hs'=>by have:=hs.rs s hs';omega),h.rroom,h.rcap⟩,
  h.h.toR hl (fun p hp=>⟨by have:=(hs.h p hp).1;omega,fun s hs'=>by have:=(hs.h p hp).2 s hs';omega⟩),h.hroom,h.hcap⟩
def EntsA (w : World) (A : Option Addr) (es : List Ent) : Prop:=es.length ≤ 1048576 ∧ ∃ zs : List NewE,zs.map (·.e) = es ∧ ReadX encE 5 w A zs ∧ ∀ z ∈ zs,EntA w z
theorem EntsA.calm {w w' : World} {A : Option Addr} {es : List Ent} (h : EntsA w A es) (hc : Calm w w') : EntsA w' A es:=by
 obtain ⟨h0,zs,h1,h2,h3⟩:=h
 exact ⟨h0,zs,h1,h2.calm hc,fun z hz=>(h3 z hz).calm hc⟩
theorem EntsA.get {w : World} {A : Option Addr} {es : List Ent} (h : EntsA w A es) {k : Nat} (hk : k < es.length) : ∃ (b o : Nat) (z : NewE),A = some ⟨b,o,none⟩ ∧ b < w.heap.size ∧ es[k]? = some z.e ∧
  w.cell? ⟨b,o + k * 5,none⟩ = some (.slice z.LA z.e.left.parts.length z.lc) ∧ w.cell? ⟨b,o + k * 5 + 1,none⟩ = some (.bool z.e.left.rest) ∧ w.cell? ⟨b,o + k * 5 + 2,none⟩ = some (.slice z.RA z.e.right.parts.length z.rc) ∧ w.cell? ⟨b,o + k * 5 + 3,none⟩ = some (.bool z.e.right.rest) ∧ w.cell? ⟨b,o + k * 5 + 4,none⟩ = some (.slice z.HA z.e.hs.length z.hc) ∧ EntA w z:=by
 obtain ⟨_,zs,rfl,h2,h3⟩:=h
 rw [List.length_map] at hk
 obtain ⟨b,o,hA,hb,hc⟩:=h2 (fun e=>by rw [e] at hk;simp at hk)
 have hz:=List.getElem?_eq_getElem hk
 exact ⟨b,o,zs[k],hA,hb,by rw [List.getElem?_map,hz];rfl,hc k _ hz 0 _ rfl,hc k _ hz 1 _ rfl,hc k _ hz 2 _ rfl,hc k _ hz 3 _ rfl,hc k _ hz 4 _ rfl,h3 _ (List.mem_of_getElem? hz)⟩
end Go.Proofs.YtnlnclefedohkaaGreatDoor
set_option linter.unusedVariables false
set_option linter.unusedSimpArgs false
namespace Go.Proofs.YtnlnclefedohkaaGreatDoor
open Go Go.RowKit Sy

theorem pcheckU_v (p : Pat) (v : Int) (A : Option Addr) (c : Nat) (w : World) (hv : patErr p = v) (hr : StrsU w A p.parts) (hnc : p.parts.length ≤ c) (hc47 : c ≤ 9223372036854775807) : Calls Tryz.prog 64 #[.agg #[.slice A p.parts.length c,.bool p.rest]] w fun e w'=>e = .returned (.int .i64 v) ∧ Calm w w':=hv ▸ pcheckG_c p A c w hr.toG hnc hc47
set_option maxHeartbeats 1000000 in
theorem gchecku_c (b : Pat) (hs : List Pat) (A : Option Addr) (c : Nat) (HA : Option Addr) (hc : Nat) (w : World) (hr : StrsU w A b.parts) (hnc : b.parts.length ≤ c) (hc47 : c ≤ 9223372036854775807) (hh : PatsU w HA hs) :
  Calls Tryz.prog 80 #[.agg #[.slice A b.parts.length c,.bool b.rest,.slice HA hs.length hc]] w fun e w'=>e = .returned (.int .i64 (regErr b hs)) ∧ Calm w w':=by
 have hlen:=hh.len
 obtain ⟨n,hn⟩ : ∃ n,hs.length = n:=⟨_,rfl⟩
 have Hn:=Lib.hid hn
 rw [hn] at hlen
 rw [hn]
 obtain ⟨pe,hpe⟩ : ∃ pe,patErr b = pe:=⟨_,rfl⟩
 obtain ⟨w1,hw1⟩ : ∃ w1,w1 = w.alloc (.cells #[.slice A b.parts.length c,.bool b.rest,.slice HA n hc] 68):=⟨_,rfl⟩
 have hc1 : Calm w w1:=by rw [hw1];exact (Calm.refl w).alloc _
 have hbox : w1.cell? ⟨w.heap.size,2,none⟩ = some (.slice HA n hc):=by rw [hw1];simp
 have hbs : w.heap.size < w1.heap.size:=by rw [hw1];simp
 have hcall:=pcheckU_v b pe A c w1 hpe (hr.calm hc1) hnc hc47
 have HH:=Lib.hid (hh.calm hc1)
 have HC:=Lib.hid hc1
 have HP:=Lib.hid hpe
 have HW:=Lib.hid hw1
 have HB:=Lib.hid hbox
 have HBS:=Lib.hid hbs
 clear hn hr hh hpe hw1 hc1 hbox hbs
 go_enter Tryz.func80,Tryz.ntmps80
 by_cases hb0 : pe = 0
 ·subst hb0
  have HPB : Hid (patErr b = 0):=HP.out
  go_wp2_with (go_at_call 64;rw [← HW.out];refine hcall.mono ?_;rintro e w2 ⟨rfl,hcw2⟩;have hbox2 : w2.cell? ⟨w.heap.size,2,none⟩ = some (.slice HA n hc):=(hcw2.cell (p:=⟨w.heap.size,2,none⟩) HBS.out).trans HB.out)
  have HC2:=Lib.hid hcw2
  clear hcall hcw2 hbox2
  go_loopw [12] (fun i wr=>∃ k : Nat,k ≤ n ∧ i = .int .i64 k ∧ Hid (∀ j h,j < k → hs[j]? = some h → patErr h = 0) ∧ Hid (Calm w1 wr)) (fun i _=>n - (intOf i).toNat)
  case atStart=>exact ⟨0,Nat.zero_le _,rfl,fun j h hj=>absurd hj (Nat.not_lt_zero _),HC2.out⟩
  case round=>
   obtain ⟨k,hk,rfl,HG,HCr⟩:=hrel
   by_cases hlt : k < n
   ·obtain ⟨bb,o,p,Ak,ck,rfl,_,hp,h1,h2,h3,h4,h5⟩:=(HH.out.calm HCr.out).get (k:=k) (by rw [Hn.out];exact hlt)
    have HP:=Lib.hid hp
    have H5:=Lib.hid h5
    obtain ⟨v,hv⟩ : ∃ v,patErr p = v:=⟨_,rfl⟩
    have HV:=Lib.hid hv
    clear hp h5 hv
    by_cases hv0 : v = 0
    ·subst hv0
     go_wp2_with (go_at_call 64;refine (pcheckU_v _ _ _ _ _ HV.out (H5.out.calm (((Calm.refl _).alloc _))) h3 h4).mono ?_;rintro e w3 ⟨rfl,hcw3⟩)
     go_roundw
     case rel=>exact ⟨k + 1,by omega,by go_num,good_holes HP.out HV.out HG.out,HCr.out.trans (((Calm.refl _).alloc _).trans hcw3)⟩
     case measure=>simp [intOf];omega
    ·have hvb : (v != 0) = true:=by simpa using hv0
     have hE : Hid (regErr b hs = 51):=regErr_hole HPB.out HP.out (by rw [HV.out];exact hv0)
     clear hv0
     go_wp2_with (go_at_call 64;refine (pcheckU_v _ _ _ _ _ HV.out (H5.out.calm (((Calm.refl _).alloc _))) h3 h4).mono ?_;rintro e w3 ⟨rfl,hcw3⟩)
     go_ret
     exact ⟨ret_int hE.out.symm,HC.out.trans (HCr.out.trans (((Calm.refl _).alloc _).trans hcw3))⟩
   ·have hbr : wr.cell? ⟨w.heap.size,2,none⟩ = some (.slice HA n hc):=(HCr.out.cell (p:=⟨w.heap.size,2,none⟩) HBS.out).trans HB.out
    have hE : Hid (regErr b hs = if 64 < n then 52 else 0):=by
     show regErr b hs = _
     rw [regErr_end HPB.out (fun j h hj=>HG.out j h (by rw [Hn.out] at hj;omega)),Hn.out]
    by_cases h64 : 64 < n
    ·go_wp2
     go_ret
     exact ⟨ret_int (by rw [hE.out,if_pos h64]),HC.out.trans HCr.out⟩
    ·go_wp2
     go_ret
     exact ⟨ret_int (by rw [hE.out,if_neg h64]),HC.out.trans HCr.out⟩
 ·have hv : Hid (regErr b hs = 50):=regErr_base (by rw [HP.out];exact hb0)
  have hbb : (pe != 0) = true:=by simpa using hb0
  clear hb0
  go_wp2_with (go_at_call 64;rw [← HW.out];refine hcall.mono ?_;rintro e w2 ⟨rfl,hcw2⟩)
  go_ret
  exact ⟨ret_int hv.out.symm,HC.out.trans hcw2⟩

end Go.Proofs.YtnlnclefedohkaaGreatDoor
set_option linter.unusedVariables false
set_option linter.unusedSimpArgs false
namespace Go.Proofs.YtnlnclefedohkaaGreatDoor
open Go Go.RowKit Sy

abbrev set3 (w : World) (b : Nat) (u0 u1 u2 : Value) : World:=((w.setCell ⟨b,0,none⟩ u0).setCell ⟨b,1,none⟩ u1).setCell ⟨b,2,none⟩ u2
theorem calm3' {w0 w : World} {b : Nat} (h : Calm w0 w) (hb : w0.heap.size ≤ b) (u0 u1 u2 : Value) : Calm w0 (set3 w b u0 u1 u2):=
 Below.setCell (p:=⟨b,2,none⟩) (Below.setCell (p:=⟨b,1,none⟩) (Below.setCell (p:=⟨b,0,none⟩) h hb _) hb _) hb _
theorem NewS.set3 {w : World} {B b c : Nat} {A : Option Addr} {ls : List Str} (h : NewS w B A c ls) (hb : b < B) (u0 u1 u2 : Value) : NewS (Go.Proofs.YtnlnclefedohkaaGreatDoor.set3 w b u0 u1 u2) B A c ls:=
 ((h.set (p:=⟨b,0,none⟩) u0 hb).set (p:=⟨b,1,none⟩) u1 hb).set (p:=⟨b,2,none⟩) u2 hb
theorem PatsN.set3 {w : World} {B b c : Nat} {A : Option Addr} {ps : List Pat} (h : PatsN w B A c ps) (hb : b < B) (u0 u1 u2 : Value) : PatsN (Go.Proofs.YtnlnclefedohkaaGreatDoor.set3 w b u0 u1 u2) B A c ps:=
 ((h.set (p:=⟨b,0,none⟩) u0 hb).set (p:=⟨b,1,none⟩) u1 hb).set (p:=⟨b,2,none⟩) u2 hb
structure ThreeB (w : World) (B : Nat) (v0 v1 v2 : Value) : Prop where
 lt : B < w.heap.size
 c0 : w.cell? ⟨B,0,none⟩ = some v0
 c1 : w.cell? ⟨B,1,none⟩ = some v1
 c2 : w.cell? ⟨B,2,none⟩ = some v2
 fz : ∀ o,w.frozen? ⟨B,o,none⟩ = false
theorem ThreeB.calm {w w' : World} {B : Nat} {v0 v1 v2 : Value} (h : ThreeB w B v0 v1 v2) (hc : Calm w w') : ThreeB w' B v0 v1 v2:=
 ⟨Nat.lt_of_lt_of_le h.lt hc.size,hc.at_ h.c0 h.lt,hc.at_ h.c1 h.lt,hc.at_ h.c2 h.lt,fun o=>(hc.frozen (p:=⟨B,o,none⟩) h.lt).trans (h.fz o)⟩
theorem ThreeB.new (w : World) (v0 v1 v2 : Value) (T : TypeId) : ThreeB (w.alloc (.cells #[v0,v1,v2] T)) w.heap.size v0 v1 v2:=
 ⟨by simp,by simp [go_sem],by simp [go_sem],by simp [go_sem],fun o=>by simp [go_sem]⟩

section
variable (LA RA HA : Option Addr) (nl lc nr rc hn hc : Nat) (lr rr : Bool)
abbrev entV : Value:=.agg #[.slice LA nl lc,.bool lr,.slice RA nr rc,.bool rr,.slice HA hn hc]
set_option maxHeartbeats 1000000 in
theorem line_c (w : World) : Calls Tryz.prog 22 #[entV LA RA HA nl lc nr rc hn hc lr rr] w fun e w'=>e = .returned (.agg #[.bool false,.slice LA nl lc,.bool lr,.slice RA nr rc,.bool rr]) ∧ Calm w w':=by
 go_enter Tryz.func22,Tryz.ntmps22
 go_wp2_with fail
 refine bodyPost_ret (v:=.agg #[.bool false,.slice LA nl lc,.bool lr,.slice RA nr rc,.bool rr]) ?_ rfl ⟨rfl,((Calm.refl w).alloc _).alloc _⟩
 rw [results_cell1 rfl]
 go_simp
set_option maxHeartbeats 1000000 in
theorem left_c (w : World) : Calls Tryz.prog 45 #[entV LA RA HA nl lc nr rc hn hc lr rr] w fun e w'=>e = .returned (.agg #[.slice LA nl lc,.bool lr,.slice HA hn hc]) ∧ Calm w w':=by
 go_enter Tryz.func45,Tryz.ntmps45
 go_wp2_with fail
 refine bodyPost_ret (v:=.agg #[.slice LA nl lc,.bool lr,.slice HA hn hc]) ?_ rfl ⟨rfl,((Calm.refl w).alloc _).alloc _⟩
 rw [results_cell1 rfl]
 go_simp
end
set_option maxHeartbeats 2000000 in
theorem isEntry_c (z : NewE) (nl nr hn : Nat) (lr rr : Bool) (w : World) (h : EntA w z) (hnl : z.e.left.parts.length = nl) (hnr : z.e.right.parts.length = nr) (hhn : z.e.hs.length = hn) (hlr : z.e.left.rest = lr) (hrr : z.e.right.rest = rr) :
  Calls Tryz.prog 85 #[entV z.LA z.RA z.HA nl z.lc nr z.rc hn z.hc lr rr] w fun e w'=>e = .returned (.bool (entryOk z.e)) ∧ Calm w w':=by
 obtain ⟨w1,hw1⟩ : ∃ w1,w1 = w.alloc (.cells #[.slice z.LA nl z.lc,.bool lr,.slice z.RA nr z.rc,.bool rr,.slice z.HA hn z.hc] 43):=⟨_,rfl⟩
 have hc1 : Calm w w1:=by rw [hw1];exact (Calm.refl w).alloc _
 have hb : FiveB w1 w.heap.size (.slice z.LA nl z.lc) (.bool lr) (.slice z.RA nr z.rc) (.bool rr) (.slice z.HA hn z.hc):=by
  rw [hw1]
  exact FiveB.new w _ _ _ _ _ _
 obtain ⟨v,hv⟩ : ∃ v,ruleErr z.e.rule = v:=⟨_,rfl⟩
 obtain ⟨u,hu⟩ : ∃ u,gErr z.e.reg = u:=⟨_,rfl⟩
 have KL : Hid (∀ W,Calls Tryz.prog 22 #[entV z.LA z.RA z.HA nl z.lc nr z.rc hn z.hc lr rr] W fun e w'=>e = .returned (.agg #[.bool false,.slice z.LA nl z.lc,.bool lr,.slice z.RA nr z.rc,.bool rr]) ∧ Calm W w'):=fun W=>line_c _ _ _ _ _ _ _ _ _ _ _ W
 have KG : Hid (∀ W,Calls Tryz.prog 45 #[entV z.LA z.RA z.HA nl z.lc nr z.rc hn z.hc lr rr] W fun e w'=>e = .returned (.agg #[.slice z.LA nl z.lc,.bool lr,.slice z.HA hn z.hc]) ∧ Calm W w'):=fun W=>left_c _ _ _ _ _ _ _ _ _ _ _ W
 have KR : Hid (∀ W,Calm w1 W → Calls Tryz.prog 53 #[.agg #[.bool false,.slice z.LA nl z.lc,.bool lr,.slice z.RA nr z.rc,.bool rr]] W fun e w'=>e = .returned (.int .i64 v) ∧ Calm W w'):=fun W hW=>by
  have:=rule_c z.e.rule z.pl W (h.calm (hc1.trans hW)).rule
  unfold ruleV Ent.rule NewE.pl at this
  simp only [hnl,hnr,hlr,hrr] at this
  rw [show (⟨false,z.e.left,z.e.right⟩ : Rule) = z.e.rule from rfl,hv] at this
  exact this
 have KC : Hid (∀ W,Calm w1 W → Calls Tryz.prog 80 #[.agg #[.slice z.LA nl z.lc,.bool lr,.slice z.HA hn z.hc]] W fun e w'=>e = .returned (.int .i64 u) ∧ Calm W w'):=fun W hW=>by
  have hh:=h.calm (hc1.trans hW)
  have:=gchecku_c z.e.left z.e.hs z.LA z.lc z.HA z.hc W hh.l hh.lroom hh.lcap hh.h
  rw [hnl,hlr,hhn,show regErr z.e.left z.e.hs = u from hu] at this
  exact this
 have HE : Hid (entryOk z.e = (v == 0 && u == 0)):=by
  show _ = _
  unfold entryOk
  rw [hv,hu]
 have HW:=Lib.hid hw1
 have HC:=Lib.hid hc1
 have HB:=Lib.hid hb
 have b0:=hb.c0
 have b1:=hb.c1
 have b2:=hb.c2
 have b3:=hb.c3
 have b4:=hb.c4
 clear hw1 hc1 hb h hnl hnr hhn hlr hrr hv hu
 go_enter Tryz.func85,Tryz.ntmps85
 have hcs : ((v == 0) = true ∧ v = 0) ∨ (v == 0) = false:=by
  by_cases h0 : v = 0
  ·exact .inl ⟨by rw [h0];rfl,h0⟩
  ·exact .inr (by rw [beq_eq_false_iff_ne];exact h0)
 rcases hcs with ⟨hv0,rfl⟩ | hv0
 ·obtain ⟨ub,hub⟩ : ∃ ub,(u == 0) = ub:=⟨_,rfl⟩
  have HEe : Hid (entryOk z.e = ub):=by
   show _ = _
   rw [HE.out,hub]
   rfl
  clear hv0
  go_wp2_with (first
   |(go_at_call 22;rw [← HW.out];refine (KL.out _).mono ?_;rintro e w2 ⟨rfl,hc2⟩)
   |(go_at_call 53;refine (KR.out w2 hc2).mono ?_;rintro e w3 ⟨rfl,hc3⟩;have HC3:=Lib.hid (hc2.trans hc3);have b3:=HB.out.calm HC3.out;have d0:=b3.c0;have d1:=b3.c1;have d2:=b3.c2;have d3:=b3.c3;have d4:=b3.c4)
   |(go_at_call 45;refine (KG.out _).mono ?_;rintro e w4 ⟨rfl,hc4⟩)
   |(go_at_call 80;refine (KC.out w4 (HC3.out.trans hc4)).mono ?_;rintro e w5 ⟨rfl,hc5⟩;have HC5:=Lib.hid (HC3.out.trans (hc4.trans hc5))))
  go_ret
  exact ⟨ret_bool HEe.out.symm,HC.out.trans HC5.out⟩
 ·have HEe : Hid (entryOk z.e = false):=by
   show _ = _
   rw [HE.out,hv0]
   rfl
  go_wp2_with (first
   |(go_at_call 22;rw [← HW.out];refine (KL.out _).mono ?_;rintro e w2 ⟨rfl,hc2⟩)
   |(go_at_call 53;refine (KR.out w2 hc2).mono ?_;rintro e w3 ⟨rfl,hc3⟩;have HC3:=Lib.hid (hc2.trans hc3)))
  go_ret
  exact ⟨ret_bool HEe.out.symm,HC.out.trans HC3.out⟩
end Go.Proofs.YtnlnclefedohkaaGreatDoor
