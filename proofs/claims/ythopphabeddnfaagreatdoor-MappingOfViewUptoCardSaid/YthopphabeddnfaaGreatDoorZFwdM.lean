/- Walk: mapping.Forward. -/
import Derived.Test.YthopphabeddnfaaGreatDoorZSem
import Derived.Test.YthopphabeddnfaaGreatDoorZWalkI
import Derived.Test.YthopphabeddnfaaGreatDoorZMatch
import Derived.Test.YthopphabeddnfaaGreatDoorZPath
import Derived.Test.YthopphabeddnfaaGreatDoorZKinds
import Derived.Test.YthopphabeddnfaaGreatDoorZFwd
import Derived.Test.YthopphabeddnfaaGreatDoorZEntM
import Derived.Test.YthopphabeddnfaaGreatDoorZNarW
import Derived.Test.YthopphabeddnfaaGreatDoorZCheckV
set_option linter.unusedVariables false
set_option linter.unusedSimpArgs false
namespace Go.Proofs.YthopphabeddnfaaGreatDoor
open Go Go.RowKit Sy
def hasS (b : Pat) (hs : List Pat) (s : Str) : Bool:=matchS b s && !(hs.any fun h=>matchS h s)
theorem okPat_iff {p : Pat} : okPat p = true ↔ patErr p = 0:=by simp [okPat]
theorem hasS_hasR {b : Pat} {hs : List Pat} (hb : patErr b = 0) (hh : ∀ h ∈ hs,patErr h = 0) (s : Str) : hasS b hs s = hasR b hs s:=by
 unfold hasS hasR
 rcases hp : pathOf s with _ | l
 ·have : matchS b s = false:=by rw [matchS,hp]
  rw [this]
  rfl
 ·have h1 : matchS b s = matchL b l:=by
   rw [matchS,hp]
   simp only
   rw [okPat_iff.2 hb,Bool.true_and]
  have h2 : (hs.any fun h=>matchS h s) = hs.any fun h=>matchL h l:=by
   rw [Bool.eq_iff_iff,List.any_eq_true,List.any_eq_true]
   constructor
   ·rintro ⟨h,hm,he⟩
    refine ⟨h,hm,?_⟩
    rw [matchS,hp] at he
    simp only at he
    rw [Bool.and_eq_true] at he
    exact he.2
   ·rintro ⟨h,hm,he⟩
    refine ⟨h,hm,?_⟩
    rw [matchS,hp]
    simp only
    rw [okPat_iff.2 (hh h hm),he]
    rfl
  rw [h1,h2]
  rfl
end Go.Proofs.YthopphabeddnfaaGreatDoor
set_option linter.unusedVariables false
set_option linter.unusedSimpArgs false
namespace Go.Proofs.YthopphabeddnfaaGreatDoor
open Go Go.RowKit Sy

set_option maxHeartbeats 1000000 in
theorem gcheck_c (b : Pat) (hs : List Pat) (A : Option Addr) (c : Nat) (HA : Option Addr) (hc : Nat) (w : World) (hr : StrsR w A b.parts) (hnc : b.parts.length ≤ c) (hc47 : c ≤ 9223372036854775807) (hh : PatsR w HA hs) :
  Calls Tryz.prog 48 #[.agg #[.slice A b.parts.length c,.bool b.rest,.slice HA hs.length hc]] w fun e w'=>e = .returned (.int .i64 (regErr b hs)) ∧ Calm w w':=by
 have hlen:=hh.len
 obtain ⟨n,hn⟩ : ∃ n,hs.length = n:=⟨_,rfl⟩
 have Hn:=Lib.hid hn
 rw [hn] at hlen
 rw [hn]
 obtain ⟨pe,hpe⟩ : ∃ pe,patErr b = pe:=⟨_,rfl⟩
 obtain ⟨w1,hw1⟩ : ∃ w1,w1 = w.alloc (.cells #[.slice A b.parts.length c,.bool b.rest,.slice HA n hc] 48):=⟨_,rfl⟩
 have hc1 : Calm w w1:=by rw [hw1];exact (Calm.refl w).alloc _
 have hbox : w1.cell? ⟨w.heap.size,2,none⟩ = some (.slice HA n hc):=by rw [hw1];simp
 have hbs : w.heap.size < w1.heap.size:=by rw [hw1];simp
 have hcall:=pcheck_v b pe A c w1 hpe (hr.calm hc1) hnc hc47
 have HH:=Lib.hid (hh.calm hc1)
 have HC:=Lib.hid hc1
 have HP:=Lib.hid hpe
 have HW:=Lib.hid hw1
 have HB:=Lib.hid hbox
 have HBS:=Lib.hid hbs
 clear hn hr hh hpe hw1 hc1 hbox hbs
 go_enter Tryz.func48,Tryz.ntmps48
 by_cases hb0 : pe = 0
 ·subst hb0
  have HPB : Hid (patErr b = 0):=HP.out
  go_wp2_with (go_at_call 60;rw [← HW.out];refine hcall.mono ?_;rintro e w2 ⟨rfl,hcw2⟩;have hbox2 : w2.cell? ⟨w.heap.size,2,none⟩ = some (.slice HA n hc):=(hcw2.cell (p:=⟨w.heap.size,2,none⟩) HBS.out).trans HB.out)
  have HC2:=Lib.hid hcw2
  clear hcall hcw2 hbox2
  go_loopw [12] (fun i wr=>∃ k : Nat,k ≤ n ∧ i = .int .i64 k ∧ Hid (∀ j h,j < k → hs[j]? = some h → patErr h = 0) ∧ Hid (Calm w1 wr)) (fun i _=>n - (intOf i).toNat)
  case atStart=>exact ⟨0,Nat.zero_le _,rfl,fun j h hj=>absurd hj (Nat.not_lt_zero _),HC2.out⟩
  case round=>
   obtain ⟨k,hk,rfl,HG,HCr⟩:=hrel
   by_cases hlt : k < n
   ·obtain ⟨bb,o,p,Ak,ck,rfl,_,hp,h1,h2,h3,h4,h5⟩:=(HH.out.calm HCr.out).get (k:=k) (by rw [Hn.out];exact hlt)
    have HP:=Lib.hid hp
    have H5:=Lib.hid h5
    obtain ⟨v,hv⟩ : ∃ v,patErr p = v:=⟨_,rfl⟩
    have HV:=Lib.hid hv
    clear hp h5 hv
    by_cases hv0 : v = 0
    ·subst hv0
     go_wp2_with (go_at_call 60;refine (pcheck_v _ _ _ _ _ HV.out (H5.out.calm (((Calm.refl _).alloc _))) h3 h4).mono ?_;rintro e w3 ⟨rfl,hcw3⟩)
     go_roundw
     case rel=>exact ⟨k + 1,by omega,by go_num,good_holes HP.out HV.out HG.out,HCr.out.trans (((Calm.refl _).alloc _).trans hcw3)⟩
     case measure=>simp [intOf];omega
    ·have hvb : (v != 0) = true:=by simpa using hv0
     have hE : Hid (regErr b hs = 51):=regErr_hole HPB.out HP.out (by rw [HV.out];exact hv0)
     clear hv0
     go_wp2_with (go_at_call 60;refine (pcheck_v _ _ _ _ _ HV.out (H5.out.calm (((Calm.refl _).alloc _))) h3 h4).mono ?_;rintro e w3 ⟨rfl,hcw3⟩)
     go_ret
     exact ⟨ret_int hE.out.symm,HC.out.trans (HCr.out.trans (((Calm.refl _).alloc _).trans hcw3))⟩
   ·have hbr : wr.cell? ⟨w.heap.size,2,none⟩ = some (.slice HA n hc):=(HCr.out.cell (p:=⟨w.heap.size,2,none⟩) HBS.out).trans HB.out
    have hE : Hid (regErr b hs = if 64 < n then 52 else 0):=by
     show regErr b hs = _
     rw [regErr_end HPB.out (fun j h hj=>HG.out j h (by rw [Hn.out] at hj;omega)),Hn.out]
    by_cases h64 : 64 < n
    ·go_wp2
     go_ret
     exact ⟨ret_int (by rw [hE.out,if_pos h64]),HC.out.trans HCr.out⟩
    ·go_wp2
     go_ret
     exact ⟨ret_int (by rw [hE.out,if_neg h64]),HC.out.trans HCr.out⟩
 ·have hv : Hid (regErr b hs = 50):=regErr_base (by rw [HP.out];exact hb0)
  have hbb : (pe != 0) = true:=by simpa using hb0
  clear hb0
  go_wp2_with (go_at_call 60;rw [← HW.out];refine hcall.mono ?_;rintro e w2 ⟨rfl,hcw2⟩)
  go_ret
  exact ⟨ret_int hv.out.symm,HC.out.trans hcw2⟩

end Go.Proofs.YthopphabeddnfaaGreatDoor
set_option linter.unusedVariables false
set_option linter.unusedSimpArgs false
namespace Go.Proofs.YthopphabeddnfaaGreatDoor
open Go Go.RowKit Sy
theorem match_b (p : Pat) (s : Str) (r : Bool) (A : Option Addr) (c : Nat) (w : World) (hs : s.length ≤ 1100000) (hr : StrsR w A p.parts) (hpc : p.parts.length ≤ c) (hc47 : c ≤ 9223372036854775807) (hM : MaxL w) (h : matchS p s = r) :
  Calls Tryz.prog 51 #[.agg #[.slice A p.parts.length c,.bool p.rest],.string (bs s)] w fun e w'=>∃ A' n' c',e = .returned (.tuple #[.slice A' n' c',.bool r]) ∧ Calm w w':=
 (match_c p s A c w hs hr hpc (Nat.le_trans hc47 (by decide)) hM).mono fun e w' ⟨h1,h2⟩=>by
  rcases h1 with ⟨h3,A',c',h4,_⟩ | ⟨h3,h4⟩
  ·rw [h] at h3
   subst h3
   exact ⟨_,_,_,h4,h2⟩
  ·rw [h] at h3
   subst h3
   exact ⟨_,_,_,h4,h2⟩
set_option maxHeartbeats 1000000 in
theorem hclo_pred (s : Str) (w : World) (Bs : Nat) (hs : s.length ≤ 1100000) (hM : MaxL w) (hB : Bs < w.heap.size) (cs : w.cell? ⟨Bs,0,none⟩ = some (.string (bs s))) :
  PredP 50 #[.pointer (some ⟨Bs,0,none⟩)] (fun p=>matchS p s) w:=by
 intro W hW p A c hr hpc hc47
 show Calls Tryz.prog 50 #[.agg #[.slice A p.parts.length c,.bool p.rest],.pointer (some ⟨Bs,0,none⟩)] W _
 obtain ⟨r,hrr⟩ : ∃ r,matchS p s = r:=⟨_,rfl⟩
 obtain ⟨w1,hw1⟩ : ∃ w1,w1 = W.alloc (.cells #[.slice A p.parts.length c,.bool p.rest] 37):=⟨_,rfl⟩
 have hc1 : Calm W w1:=by rw [hw1];exact (Calm.refl W).alloc _
 have hm:=match_b p s r A c w1 hs (hr.calm hc1) hpc hc47 (hM.calm (hW.trans hc1)) hrr
 have k0 : w1.cell? ⟨Bs,0,none⟩ = some (.string (bs s)):=(hW.trans hc1).at_ cs hB
 have b0 : w1.cell? ⟨W.heap.size,0,none⟩ = some (.slice A p.parts.length c):=by rw [hw1];simp
 have b1 : w1.cell? ⟨W.heap.size,1,none⟩ = some (.bool p.rest):=by rw [hw1];simp
 show Calls _ _ _ W fun e w'=>e = .returned (.bool (matchS p s)) ∧ Calm W w'
 rw [hrr]
 have HW:=Lib.hid hw1
 have HC:=Lib.hid hc1
 rw [hw1] at k0
 clear hw1 hc1 hr hrr hM cs hW b0 b1
 generalize p.parts.length = n at hm HW k0 hpc ⊢
 generalize p.rest = re at hm HW k0 ⊢
 go_enter Tryz.func50,Tryz.ntmps50
 go_wp2_with (go_at_call 51;rw [← HW.out];refine hm.mono ?_;rintro e w2 ⟨A2,n2,c2,rfl,hc2⟩)
 go_ret
 exact ⟨rfl,HC.out.trans hc2⟩
def hasV (b : Pat) (hs : List Pat) (s : Str) : Bool:=regErr b hs == 0 && hasS b hs s

set_option maxHeartbeats 1000000 in
theorem has_c (b : Pat) (hs : List Pat) (s : Str) (A : Option Addr) (c : Nat) (HA : Option Addr) (hc : Nat) (w : World) (hsl : s.length ≤ 1100000) (hr : StrsR w A b.parts) (hnc : b.parts.length ≤ c) (hc47 : c ≤ 9223372036854775807) (hh : PatsR w HA hs) (hM : MaxL w) :
  Calls Tryz.prog 23 #[.agg #[.slice A b.parts.length c,.bool b.rest,.slice HA hs.length hc],.string (bs s)] w fun e w'=>e = .returned (.bool (hasV b hs s)) ∧ Calm w w':=by
 obtain ⟨hn,hhn⟩ : ∃ hn,hs.length = hn:=⟨_,rfl⟩
 obtain ⟨w1,hw1⟩ : ∃ w1,w1 = (w.alloc (.cells #[.slice A b.parts.length c,.bool b.rest,.slice HA hn hc] 48)).alloc (.cells #[.string (bs s)] 9):=⟨_,rfl⟩
 have hc1 : Calm w w1:=by rw [hw1];exact ((Calm.refl w).alloc _).alloc _
 have hs1 : w1.heap.size = w.heap.size + 2:=by rw [hw1];simp
 have k0 : w1.cell? ⟨w.heap.size,0,none⟩ = some (.slice A b.parts.length c):=by rw [hw1];simp
 have k1 : w1.cell? ⟨w.heap.size,1,none⟩ = some (.bool b.rest):=by rw [hw1];simp
 have k2 : w1.cell? ⟨w.heap.size,2,none⟩ = some (.slice HA hn hc):=by rw [hw1];simp
 have k3 : w1.cell? ⟨w.heap.size + 1,0,none⟩ = some (.string (bs s)):=by rw [hw1];simp
 obtain ⟨v,hv⟩ : ∃ v,regErr b hs = v:=⟨_,rfl⟩
 have hck:=gcheck_c b hs A c HA hc w1 (hr.calm hc1) hnc hc47 (hh.calm hc1)
 have HPred : Hid (∀ W : World,Calm w1 W → PredP 50 #[.pointer (some ⟨w.heap.size + 1,0,none⟩)] (fun p=>matchS p s) W):=fun W hW=>
  hclo_pred s W (w.heap.size + 1) hsl (hM.calm (hc1.trans hW)) (Nat.lt_of_lt_of_le (by rw [hs1];omega) hW.size) (hW.at_ k3 (by rw [hs1];omega))
 have HBase : Hid (∀ W : World,Calm w1 W → Calls Tryz.prog 50 #[.agg #[.slice A b.parts.length c,.bool b.rest],.pointer (some ⟨w.heap.size + 1,0,none⟩)] W fun e w'=>e = .returned (.bool (matchS b s)) ∧ Calm W w'):=fun W hW=>
  HPred.out W hW W (Calm.refl W) b A c ((hr.calm hc1).calm hW) hnc hc47
 have HAny : Hid (∀ W : World,Calm w1 W → Calls Tryz.prog 52 #[.slice HA hn hc,.func (.func 50) #[] #[.pointer (some ⟨w.heap.size + 1,0,none⟩)]] W fun e w'=>e = .returned (.bool (hs.any fun h=>matchS h s)) ∧ Calm W w'):=fun W hW=>by
  have:=pany_c 50 #[.pointer (some ⟨w.heap.size + 1,0,none⟩)] (enters_of Tryz.func50 (by kernel_rfl) rfl) (fun p=>matchS p s) hs HA hc W ((hh.calm hc1).calm hW) (HPred.out W hW)
  rw [hhn] at this
  exact this
 have eg : ∀ args w,(callFunc 50 args).run Tryz.prog w = .ok (.enter 50 args) w:=enters_of Tryz.func50 (by kernel_rfl) rfl
 have HV : Hid (hasV b hs s = (v == 0 && (matchS b s && !(hs.any fun h=>matchS h s)))):=by
  show hasV b hs s = _
  rw [hasV,hv]
  rfl
 rw [hv,hhn] at hck
 rw [hhn]
 have HW:=Lib.hid hw1
 have HC:=Lib.hid hc1
 have HS:=Lib.hid hs1
 have HK:=Lib.hid (And.intro k0 (And.intro k1 k2))
 clear hw1 hc1 hs1 k0 k1 k2 k3 hr hh hhn hv hM HPred hnc
 generalize b.parts.length = bn at *
 generalize b.rest = br at *
 generalize (hs.any fun h=>matchS h s) = ra at *
 go_enter Tryz.func23,Tryz.ntmps23
 by_cases h0 : v = 0
 ·subst h0
  rcases hm : matchS b s with _ | _
  ·rw [hm] at HBase HV
   go_wp2_with (first
    |(go_at_call 48;rw [← HW.out];refine hck.mono ?_;rintro e w2 ⟨rfl,hc2⟩;have l0:=hc2.at_ HK.out.1 (by rw [HS.out];omega);have l1:=hc2.at_ HK.out.2.1 (by rw [HS.out];omega);have l2:=hc2.at_ HK.out.2.2 (by rw [HS.out];omega))
    |(go_at_fn 50;refine (HBase.out _ hc2).mono ?_;rintro e w3 ⟨rfl,hc3⟩;have m2:=(hc2.trans hc3).at_ HK.out.2.2 (by rw [HS.out];omega))
    |(go_at_call 52;refine (HAny.out _ (hc2.trans hc3)).mono ?_;rintro e w4 ⟨rfl,hc4⟩))
   go_ret
   exact ⟨ret_bool (by rw [HV.out];simp),HC.out.trans (hc2.trans hc3)⟩
  ·rw [hm] at HBase HV
   go_wp2_with (first
    |(go_at_call 48;rw [← HW.out];refine hck.mono ?_;rintro e w2 ⟨rfl,hc2⟩;have l0:=hc2.at_ HK.out.1 (by rw [HS.out];omega);have l1:=hc2.at_ HK.out.2.1 (by rw [HS.out];omega);have l2:=hc2.at_ HK.out.2.2 (by rw [HS.out];omega))
    |(go_at_fn 50;refine (HBase.out _ hc2).mono ?_;rintro e w3 ⟨rfl,hc3⟩;have m2:=(hc2.trans hc3).at_ HK.out.2.2 (by rw [HS.out];omega))
    |(go_at_call 52;refine (HAny.out _ (hc2.trans hc3)).mono ?_;rintro e w4 ⟨rfl,hc4⟩))
   go_ret
   exact ⟨ret_bool (by rw [HV.out];simp),HC.out.trans (hc2.trans (hc3.trans hc4))⟩
 ·have hvb : (v != 0) = true:=by simpa using h0
  have hv0 : Hid (hasV b hs s = false):=by
   show hasV b hs s = false
   rw [HV.out]
   simp [h0]
  clear h0
  go_wp2_with (go_at_call 48;rw [← HW.out];refine hck.mono ?_;rintro e w2 ⟨rfl,hc2⟩)
  go_ret
  exact ⟨ret_bool hv0.out.symm,HC.out.trans hc2⟩
end Go.Proofs.YthopphabeddnfaaGreatDoor
set_option linter.unusedVariables false
set_option linter.unusedSimpArgs false
namespace Go.Proofs.YthopphabeddnfaaGreatDoor
open Go Go.RowKit Sy

end Go.Proofs.YthopphabeddnfaaGreatDoor
set_option linter.unusedVariables false
set_option linter.unusedSimpArgs false
namespace Go.Proofs.YthopphabeddnfaaGreatDoor
open Go Go.RowKit Sy
def bySE (es : List Ent) (s : Str) : Option Str:=match es.find? (fun x=>hasS x.left x.hs s) with
 |some x=>fwd x.rule s
 |none=>none
def byV (es : List Ent) (s : Str) : Value:=.tuple #[.string (bs ((bySE es s).getD [])),.bool (bySE es s).isSome]
theorem bySE_hit {es : List Ent} {s : Str} {k : Nat} {x : Ent} (hk : es[k]? = some x) (hx : hasS x.left x.hs s = true) (hall : ∀ j q,j < k → es[j]? = some q → hasS q.left q.hs s = false) : byV es s = fwdV x.rule s:=by
 have hf : es.find? (fun x=>hasS x.left x.hs s) = some x:=by
  obtain ⟨hlt,rfl⟩:=List.getElem?_eq_some_iff.1 hk
  rw [List.find?_eq_some_iff_getElem]
  exact ⟨hx,k,hlt,rfl,fun j hj=>by rw [hall j _ hj (List.getElem?_eq_getElem (by omega))];rfl⟩
 unfold byV bySE fwdV
 rw [hf]
theorem bySE_miss {es : List Ent} {s : Str} (hall : ∀ j q,j < es.length → es[j]? = some q → hasS q.left q.hs s = false) : byV es s = .tuple #[.string (bs []),.bool false]:=by
 have hf : es.find? (fun x=>hasS x.left x.hs s) = none:=by
  rw [List.find?_eq_none]
  intro x hx
  obtain ⟨j,hj,e⟩:=List.mem_iff_getElem.1 hx
  rw [hall j x hj (by rw [List.getElem?_eq_getElem hj,e])]
  simp
 unfold byV bySE
 rw [hf]
 rfl

end Go.Proofs.YthopphabeddnfaaGreatDoor
set_option linter.unusedVariables false
set_option linter.unusedSimpArgs false
namespace Go.Proofs.YthopphabeddnfaaGreatDoor
open Go Go.RowKit Sy

theorem SmallE.v {x : Ent} (h : SmallE x) (hr : ruleErr x.rule = 0) : SmallV x.rule:=by
 have tw : Sy.Twin x.left x.right:=ruleErr_twin.1 hr
 have h1:=(patErr_iff.1 tw.lp).2.2.1
 have h2:=(patErr_iff.1 tw.rp).2.2.1
 exact ⟨by show x.left.parts.length ≤ _;omega,(fun s hs=>Nat.le_trans (h.ls s hs) (by decide)),by show x.right.parts.length ≤ _;omega,(fun s hs=>Nat.le_trans (h.rs s hs) (by decide))⟩
def mfV (es : List Ent) (s : Str) : Value:=if (mapE es).2 = 0 then byV es s else .tuple #[.string (bs []),.bool false]
theorem EntA.few {w : World} {z : NewE} (h : EntA w z) (hs : SmallE z.e) (hg : gErr z.e.reg = 0) : EntU w z:=h.u hs (by have : z.e.reg.hs.length ≤ 64:=(gErr_zero hg).2.2;have e : z.e.reg.hs = z.e.hs:=rfl;rw [e] at this;omega)
theorem has_g (x : Ent) (s : Str) (v : Bool) (A : Option Addr) (n c : Nat) (HA : Option Addr) (hn hc : Nat) (re : Bool) (w : World) (hsl : s.length ≤ 1100000) (hr : StrsR w A x.left.parts) (hnc : x.left.parts.length ≤ c) (hc47 : c ≤ 9223372036854775807) (hh : PatsR w HA x.hs) (hM : MaxL w) (hg : gErr x.reg = 0) (hv : hasS x.left x.hs s = v) (hnn : x.left.parts.length = n) (hhn : x.hs.length = hn) (hre : x.left.rest = re) :
  Calls Tryz.prog 23 #[.agg #[.slice A n c,.bool re,.slice HA hn hc],.string (bs s)] w fun e w'=>e = .returned (.bool v) ∧ Calm w w':=by
 have:=has_c x.left x.hs s A c HA hc w hsl hr hnc hc47 hh hM
 have e : hasV x.left x.hs s = v:=by
  unfold hasV
  rw [show regErr x.left x.hs = 0 from hg,hv]
  rfl
 rw [e,hnn,hhn,hre] at this
 exact this
set_option maxHeartbeats 4000000 in
theorem mfwd_c (es : List Ent) (s : Str) (n c : Nat) (A : Option Addr) (w : World) (h : EntsA w A es) (hcn : n ≤ c) (hcc : c ≤ 9223372036854775807) (hn : es.length = n) (hsm : ∀ x ∈ es,SmallE x) (hsl : s.length ≤ 1100000) (hM : MaxL w) :
  Calls Tryz.prog 8 #[.slice A n c,.string (bs s)] w fun e w'=>e = .returned (mfV es s) ∧ Calm w w':=by
 have hl : n ≤ 1048576:=by rw [← hn];exact h.1
 obtain ⟨er,her⟩ : ∃ er,(mapE es).2 = er:=⟨_,rfl⟩
 obtain ⟨w1,hw1⟩ : ∃ w1,w1 = w.alloc (.cells #[.slice A n c] 24):=⟨_,rfl⟩
 have hc1 : Calm w w1:=by rw [hw1];exact (Calm.refl w).alloc _
 have KC:=check1_c es n c w.heap.size A er w1 (h.calm hc1) hcn hcc hsm hn her (by rw [hw1];simp) (by rw [hw1];simp)
 have HV0 : er ≠ 0 → Hid (mfV es s = .tuple #[.string (bs []),.bool false]):=fun h0=>by
  show mfV es s = _
  unfold mfV
  rw [her,if_neg h0]
 have HV1 : er = 0 → Hid (mfV es s = byV es s ∧ ∀ x ∈ es,ruleErr x.rule = 0 ∧ gErr x.reg = 0):=fun h0=>by
  refine ⟨?_,(mapE_zero (her.trans h0)).1.good⟩
  show mfV es s = _
  unfold mfV
  rw [her,if_pos h0]
 have HE:=Lib.hid h
 have HN:=Lib.hid hn
 have HS:=Lib.hid hsm
 have HM:=Lib.hid hM
 have HW:=Lib.hid hw1
 have HC:=Lib.hid hc1
 have HKC:=Lib.hid KC
 clear h hn hsm hM hw1 hc1 KC her
 go_enter Tryz.func8,Tryz.ntmps8
 by_cases h0 : er = 0
 ·subst h0
  have HV:=HV1 rfl
  clear HV0 HV1
  go_wp2_with fail
  rw [← HW.out]
  refine HKC.out.mono ?_
  rintro e w2 ⟨rfl,hc2⟩
  have HC2 : Hid (Calm w w2):=HC.out.trans hc2
  clear hc2
  go_wp2_with fail
  go_loopw [14] (fun u wr=>∃ k : Nat,k ≤ n ∧ u = .int .i64 k ∧ Hid (∀ j q,j < k → es[j]? = some q → hasS q.left q.hs s = false) ∧ Hid (Calm w wr)) (fun u _=>n - (intOf u).toNat)
  case atStart=>exact ⟨0,Nat.zero_le _,rfl,fun j h hj=>absurd hj (Nat.not_lt_zero _),HC2.out⟩
  case round=>
   obtain ⟨k,hk,rfl,HI,HCr⟩:=hrel
   obtain ⟨wq,rfl⟩ : ∃ wq,wq = wr:=⟨_,rfl⟩
   by_cases hlt : k < n
   ·obtain ⟨b,o,z,rfl,hb,hz,c0,c1,c2,c3,c4,hua⟩:=(HE.out.calm HCr.out).get (k:=k) (by rw [HN.out];exact hlt)
    have hmem:=List.mem_of_getElem? hz
    have hgd:=HV.out.2 z.e hmem
    have hu:=hua.few (HS.out _ hmem) hgd.2
    have hsv:=(HS.out _ hmem).v hgd.1
    obtain ⟨e0,he0⟩ : ∃ e0,z.e = e0:=⟨_,rfl⟩
    have ul:=hu.l
    have ur:=hu.r
    have uh:=hu.h
    rw [he0] at c0 c1 c2 c3 c4 ul ur uh hz hgd hsv
    obtain ⟨nl,hnl⟩ : ∃ nl,e0.left.parts.length = nl:=⟨_,rfl⟩
    obtain ⟨nr,hnr⟩ : ∃ nr,e0.right.parts.length = nr:=⟨_,rfl⟩
    obtain ⟨lr,hlr⟩ : ∃ lr,e0.left.rest = lr:=⟨_,rfl⟩
    obtain ⟨rr,hrr⟩ : ∃ rr,e0.right.rest = rr:=⟨_,rfl⟩
    obtain ⟨hn,hhn⟩ : ∃ hn,e0.hs.length = hn:=⟨_,rfl⟩
    rw [hnl] at c0
    rw [hlr] at c1
    rw [hnr] at c2
    rw [hrr] at c3
    rw [hhn] at c4
    obtain ⟨v,hv⟩ : ∃ v,hasS e0.left e0.hs s = v:=⟨_,rfl⟩
    have KG : Hid (∀ W,Calls Tryz.prog 21 #[entV z.LA z.RA z.HA nl z.lc nr z.rc hn z.hc lr rr] W fun e w'=>e = .returned (.agg #[.slice z.LA nl z.lc,.bool lr,.slice z.HA hn z.hc]) ∧ Calm W w'):=fun W=>left_c _ _ _ _ _ _ _ _ _ _ _ W
    have KL : Hid (∀ W,Calls Tryz.prog 25 #[entV z.LA z.RA z.HA nl z.lc nr z.rc hn z.hc lr rr] W fun e w'=>e = .returned (.agg #[.bool false,.slice z.LA nl z.lc,.bool lr,.slice z.RA nr z.rc,.bool rr]) ∧ Calm W w'):=fun W=>line_c _ _ _ _ _ _ _ _ _ _ _ W
    have KH : Hid (∀ W,Calm wq W → Calls Tryz.prog 23 #[.agg #[.slice z.LA nl z.lc,.bool lr,.slice z.HA hn z.hc],.string (bs s)] W fun e w'=>e = .returned (.bool v) ∧ Calm W w'):=fun W hW=>
     has_g e0 s v z.LA nl z.lc z.HA hn z.hc lr W hsl (ul.calm hW).r ul.room ul.cap (uh.calm hW) (HM.out.calm (HCr.out.trans hW)) hgd.2 hv hnl hhn hlr
    have KF : Hid (∀ W,Calm wq W → Calls Tryz.prog 24 #[.agg #[.bool false,.slice z.LA nl z.lc,.bool lr,.slice z.RA nr z.rc,.bool rr],.string (bs s)] W fun e w'=>e = .returned (fwdV e0.rule s) ∧ Calm W w'):=fun W hW=>by
     have:=fwd_c e0.rule ⟨z.LA,z.lc,z.RA,z.rc⟩ s W ⟨(ul.calm hW).r.toU,(ur.calm hW).r.toU,ul.room,ur.room,ul.cap,ur.cap⟩ hsv hsl (HM.out.calm (HCr.out.trans hW))
     unfold ruleV Ent.rule at this
     simp only [hnl,hnr,hlr,hrr] at this
     exact this
    have HZ:=Lib.hid hz
    have HVv:=Lib.hid hv
    obtain ⟨B,hB⟩ : ∃ B,wq.heap.size = B:=⟨_,rfl⟩
    obtain ⟨wb,hwb⟩ : ∃ wb,wb = wq.alloc (.cells #[.slice z.LA nl z.lc,.bool lr,.slice z.RA nr z.rc,.bool rr,.slice z.HA hn z.hc] 40):=⟨_,rfl⟩
    have hf : FiveB wb B (.slice z.LA nl z.lc) (.bool lr) (.slice z.RA nr z.rc) (.bool rr) (.slice z.HA hn z.hc):=by
     rw [hwb,← hB]
     exact FiveB.new wq _ _ _ _ _ _
    have hcb : Calm wq wb:=by
     show Below _ _ _
     rw [hwb]
     exact (Calm.refl _).alloc _
    have HF:=Lib.hid hf
    have HCb:=Lib.hid hcb
    have HWb:=Lib.hid hwb
    have HBB:=Lib.hid hB
    clear hz he0 hu hua ul ur uh hnl hnr hlr hrr hhn hv hf hcb hwb hB hmem hgd hsv
    go_wp2_with fail
    rw [← HWb.out]
    refine (KG.out wb).mono ?_
    rintro e w3 ⟨rfl,hc3⟩
    have HC3 : Hid (Calm wb w3):=hc3
    rw [HBB.out]
    clear c0 c1 c2 c3 c4 hc3
    go_wp2_with fail
    refine (KH.out w3 (HCb.out.trans HC3.out)).mono ?_
    rintro e w4 ⟨rfl,hc4⟩
    have HC4 : Hid (Calm wb w4):=HC3.out.trans hc4
    clear hc4
    cases v with
    |false=>
     go_wp2_with fail
     go_roundw
     case rel=>exact ⟨k + 1,by omega,by go_num,none_step (pr:=fun q : Ent=>hasS q.left q.hs s) HZ.out HVv.out HI.out,HCr.out.trans (HCb.out.trans HC4.out)⟩
     case measure=>simp [intOf];omega
    |true=>
     have f3:=HF.out.calm HC4.out
     have c0:=f3.c0
     have c1:=f3.c1
     have c2:=f3.c2
     have c3:=f3.c3
     have c4:=f3.c4
     have HBy : Hid (mfV es s = fwdV e0.rule s):=HV.out.1.trans (bySE_hit HZ.out HVv.out HI.out)
     clear f3
     go_wp2_with fail
     refine (KL.out w4).mono ?_
     rintro e w5 ⟨rfl,hc5⟩
     have HC5 : Hid (Calm wq w5):=HCb.out.trans (HC4.out.trans hc5)
     clear hc5
     go_wp2_with fail
     refine (KF.out w5 HC5.out).mono ?_
     rintro e w6 ⟨rfl,hc6⟩
     unfold fwdV
     clear c0 c1 c2 c3 c4
     go_wp2_with fail
     go_ret2
     exact ⟨by rw [HBy.out];rfl,HCr.out.trans (HC5.out.trans hc6)⟩
   ·obtain rfl : k = n:=by omega
    have HBy : Hid (mfV es s = .tuple #[.string (bs []),.bool false]):=HV.out.1.trans (bySE_miss (fun j q hj hq=>HI.out j q (by rw [HN.out] at hj;exact hj) hq))
    go_wp2_with fail
    go_ret2
    exact ⟨by rw [HBy.out];rfl,HCr.out⟩
 ·have HV:=HV0 h0
  have hb : (er != 0) = true:=by simpa using h0
  clear HV0 HV1 h0
  go_wp2_with fail
  rw [← HW.out]
  refine HKC.out.mono ?_
  rintro e w2 ⟨rfl,hc2⟩
  go_wp2_with fail
  go_ret2
  exact ⟨by rw [HV.out];rfl,HC.out.trans hc2⟩
end Go.Proofs.YthopphabeddnfaaGreatDoor
