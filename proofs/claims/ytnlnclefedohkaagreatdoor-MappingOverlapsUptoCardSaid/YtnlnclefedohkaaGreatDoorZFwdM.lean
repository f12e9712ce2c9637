/- Walk: mapping.Forward. -/
import Derived.Test.YtnlnclefedohkaaGreatDoorZWalkI
import Derived.Test.YtnlnclefedohkaaGreatDoorZCheckW
import Derived.Test.YtnlnclefedohkaaGreatDoorZSem
import Derived.Test.YtnlnclefedohkaaGreatDoorZMatch
import Derived.Test.YtnlnclefedohkaaGreatDoorZEntM
import Derived.Test.YtnlnclefedohkaaGreatDoorZFwd
import Derived.Test.YtnlnclefedohkaaGreatDoorZNarW
set_option linter.unusedVariables false
set_option linter.unusedSimpArgs false
namespace Go.Proofs.YtnlnclefedohkaaGreatDoor
open Go Go.RowKit Sy

set_option maxHeartbeats 1000000 in
theorem gcheck_c (b : Pat) (hs : List Pat) (A : Option Addr) (c : Nat) (HA : Option Addr) (hc : Nat) (w : World) (hr : StrsR w A b.parts) (hnc : b.parts.length ≤ c) (hc47 : c ≤ 9223372036854775807) (hh : PatsR w HA hs) :
  Calls Tryz.prog 80 #[.agg #[.slice A b.parts.length c,.bool b.rest,.slice HA hs.length hc]] w fun e w'=>e = .returned (.int .i64 (regErr b hs)) ∧ Calm w w':=by
 have hlen:=hh.len
 obtain ⟨n,hn⟩ : ∃ n,hs.length = n:=⟨_,rfl⟩
 have Hn:=Lib.hid hn
 rw [hn] at hlen
 rw [hn]
 obtain ⟨pe,hpe⟩ : ∃ pe,patErr b = pe:=⟨_,rfl⟩
 obtain ⟨w1,hw1⟩ : ∃ w1,w1 = w.alloc (.cells #[.slice A b.parts.length c,.bool b.rest,.slice HA n hc] 68):=⟨_,rfl⟩
 have hc1 : Calm w w1:=by rw [hw1];exact (Calm.refl w).alloc _
 have hbox : w1.cell? ⟨w.heap.size,2,none⟩ = some (.slice HA n hc):=by rw [hw1];simp
 have hbs : w.heap.size < w1.heap.size:=by rw [hw1];simp
 have hcall:=pcheck_v b pe A c w1 hpe (hr.calm hc1) hnc hc47
 have HH:=Lib.hid (hh.calm hc1)
 have HC:=Lib.hid hc1
 have HP:=Lib.hid hpe
 have HW:=Lib.hid hw1
 have HB:=Lib.hid hbox
 have HBS:=Lib.hid hbs
 clear hn hr hh hpe hw1 hc1 hbox hbs
 go_enter Tryz.func80,Tryz.ntmps80
 by_cases hb0 : pe = 0
 ·subst hb0
  have HPB : Hid (patErr b = 0):=HP.out
  go_wp2_with (go_at_call 64;rw [← HW.out];refine hcall.mono ?_;rintro e w2 ⟨rfl,hcw2⟩;have hbox2 : w2.cell? ⟨w.heap.size,2,none⟩ = some (.slice HA n hc):=(hcw2.cell (p:=⟨w.heap.size,2,none⟩) HBS.out).trans HB.out)
  have HC2:=Lib.hid hcw2
  clear hcall hcw2 hbox2
  go_loopw [12] (fun i wr=>∃ k : Nat,k ≤ n ∧ i = .int .i64 k ∧ Hid (∀ j h,j < k → hs[j]? = some h → patErr h = 0) ∧ Hid (Calm w1 wr)) (fun i _=>n - (intOf i).toNat)
  case atStart=>exact ⟨0,Nat.zero_le _,rfl,fun j h hj=>absurd hj (Nat.not_lt_zero _),HC2.out⟩
  case round=>
   obtain ⟨k,hk,rfl,HG,HCr⟩:=hrel
   by_cases hlt : k < n
   ·obtain ⟨bb,o,p,Ak,ck,rfl,_,hp,h1,h2,h3,h4,h5⟩:=(HH.out.calm HCr.out).get (k:=k) (by rw [Hn.out];exact hlt)
    have HP:=Lib.hid hp
    have H5:=Lib.hid h5
    obtain ⟨v,hv⟩ : ∃ v,patErr p = v:=⟨_,rfl⟩
    have HV:=Lib.hid hv
    clear hp h5 hv
    by_cases hv0 : v = 0
    ·subst hv0
     go_wp2_with (go_at_call 64;refine (pcheck_v _ _ _ _ _ HV.out (H5.out.calm (((Calm.refl _).alloc _))) h3 h4).mono ?_;rintro e w3 ⟨rfl,hcw3⟩)
     go_roundw
     case rel=>exact ⟨k + 1,by omega,by go_num,good_holes HP.out HV.out HG.out,HCr.out.trans (((Calm.refl _).alloc _).trans hcw3)⟩
     case measure=>simp [intOf];omega
    ·have hvb : (v != 0) = true:=by simpa using hv0
     have hE : Hid (regErr b hs = 51):=regErr_hole HPB.out HP.out (by rw [HV.out];exact hv0)
     clear hv0
     go_wp2_with (go_at_call 64;refine (pcheck_v _ _ _ _ _ HV.out (H5.out.calm (((Calm.refl _).alloc _))) h3 h4).mono ?_;rintro e w3 ⟨rfl,hcw3⟩)
     go_ret
     exact ⟨ret_int hE.out.symm,HC.out.trans (HCr.out.trans (((Calm.refl _).alloc _).trans hcw3))⟩
   ·have hbr : wr.cell? ⟨w.heap.size,2,none⟩ = some (.slice HA n hc):=(HCr.out.cell (p:=⟨w.heap.size,2,none⟩) HBS.out).trans HB.out
    have hE : Hid (regErr b hs = if 64 < n then 52 else 0):=by
     show regErr b hs = _
     rw [regErr_end HPB.out (fun j h hj=>HG.out j h (by rw [Hn.out] at hj;omega)),Hn.out]
    by_cases h64 : 64 < n
    ·go_wp2
     go_ret
     exact ⟨ret_int (by rw [hE.out,if_pos h64]),HC.out.trans HCr.out⟩
    ·go_wp2
     go_ret
     exact ⟨ret_int (by rw [hE.out,if_neg h64]),HC.out.trans HCr.out⟩
 ·have hv : Hid (regErr b hs = 50):=regErr_base (by rw [HP.out];exact hb0)
  have hbb : (pe != 0) = true:=by simpa using hb0
  clear hb0
  go_wp2_with (go_at_call 64;rw [← HW.out];refine hcall.mono ?_;rintro e w2 ⟨rfl,hcw2⟩)
  go_ret
  exact ⟨ret_int hv.out.symm,HC.out.trans hcw2⟩

end Go.Proofs.YtnlnclefedohkaaGreatDoor
set_option linter.unusedVariables false
set_option linter.unusedSimpArgs false
namespace Go.Proofs.YtnlnclefedohkaaGreatDoor
open Go Go.RowKit Sy

set_option maxHeartbeats 4000000 in
theorem check1_c (es : List Ent) (n c g : Nat) (A : Option Addr) (er : Int) (w : World) (h : EntsA w A es) (hcn : n ≤ c) (hcc : c ≤ 9223372036854775807) (hs : ∀ x ∈ es,SmallE x) (hn : es.length = n) (hr : (mapE es).2 = er) (k0 : w.cell? ⟨g,0,none⟩ = some (.slice A n c)) (hg : g < w.heap.size) :
  Calls Tryz.prog 19 #[.slice (some ⟨g,0,none⟩) 1 1] w fun e w'=>e = .returned (.int .i64 er) ∧ Calm w w':=by
 obtain ⟨ix,hix⟩ : ∃ ix,(mapE es).1 = ix:=⟨_,rfl⟩
 have KC:=check_c es n c A w h hcn hcc hs hn
 rw [hr,hix] at KC
 have HKC:=Lib.hid KC
 clear h hs hn hr hix KC
 go_enter Tryz.func19,Tryz.ntmps19
 go_wp2_with fail
 go_loopw [9] (fun u wr=>(u = .int .i64 0 ∧ w = wr) ∨ (u = .int .i64 1 ∧ er = 0 ∧ Hid (Calm w wr))) (fun u _=>1 - (intOf u).toNat)
 case atStart=>exact .inl ⟨rfl,rfl⟩
 case round=>
  rcases hrel with ⟨rfl,rfl⟩ | ⟨rfl,rfl,HC⟩
  ·go_wp2_with fail
   refine HKC.out.mono ?_
   rintro e w2 ⟨rfl,hc2⟩
   by_cases h0 : er = 0
   ·subst h0
    go_wp2_with fail
    go_roundw
    case rel=>exact .inr ⟨by go_num,trivial,hc2⟩
    case measure=>simp [intOf]
   ·have hb : (er != 0) = true:=by simpa using h0
    go_wp2_with fail
    go_ret
    exact ⟨rfl,hc2⟩
  ·go_wp2_with fail
   go_ret
   exact ⟨rfl,HC.out⟩
end Go.Proofs.YtnlnclefedohkaaGreatDoor
set_option linter.unusedVariables false
set_option linter.unusedSimpArgs false
namespace Go.Proofs.YtnlnclefedohkaaGreatDoor
open Go Go.RowKit Sy
def hasS (b : Pat) (hs : List Pat) (s : Str) : Bool:=matchS b s && !(hs.any fun h=>matchS h s)
end Go.Proofs.YtnlnclefedohkaaGreatDoor
set_option linter.unusedVariables false
set_option linter.unusedSimpArgs false
namespace Go.Proofs.YtnlnclefedohkaaGreatDoor
open Go Go.RowKit Sy
theorem match_b (p : Pat) (s : Str) (r : Bool) (A : Option Addr) (c : Nat) (w : World) (hs : s.length ≤ 10000) (hr : StrsR w A p.parts) (hpc : p.parts.length ≤ c) (hc47 : c ≤ 9223372036854775807) (hM : MaxL w) (h : matchS p s = r) :
  Calls Tryz.prog 82 #[.agg #[.slice A p.parts.length c,.bool p.rest],.string (bs s)] w fun e w'=>∃ A' n' c',e = .returned (.tuple #[.slice A' n' c',.bool r]) ∧ Calm w w':=
 (match_c p s A c w hs hr hpc (Nat.le_trans hc47 (by decide)) hM).mono fun e w' ⟨h1,h2⟩=>by
  rcases h1 with ⟨h3,A',c',h4,_⟩ | ⟨h3,h4⟩
  ·rw [h] at h3
   subst h3
   exact ⟨_,_,_,h4,h2⟩
  ·rw [h] at h3
   subst h3
   exact ⟨_,_,_,h4,h2⟩
set_option maxHeartbeats 1000000 in
theorem hclo_pred (s : Str) (w : World) (Bs : Nat) (hs : s.length ≤ 10000) (hM : MaxL w) (hB : Bs < w.heap.size) (cs : w.cell? ⟨Bs,0,none⟩ = some (.string (bs s))) :
  PredP 81 #[.pointer (some ⟨Bs,0,none⟩)] (fun p=>matchS p s) w:=by
 intro W hW p A c hr hpc hc47
 show Calls Tryz.prog 81 #[.agg #[.slice A p.parts.length c,.bool p.rest],.pointer (some ⟨Bs,0,none⟩)] W _
 obtain ⟨r,hrr⟩ : ∃ r,matchS p s = r:=⟨_,rfl⟩
 obtain ⟨w1,hw1⟩ : ∃ w1,w1 = W.alloc (.cells #[.slice A p.parts.length c,.bool p.rest] 40):=⟨_,rfl⟩
 have hc1 : Calm W w1:=by rw [hw1];exact (Calm.refl W).alloc _
 have hm:=match_b p s r A c w1 hs (hr.calm hc1) hpc hc47 (hM.calm (hW.trans hc1)) hrr
 have k0 : w1.cell? ⟨Bs,0,none⟩ = some (.string (bs s)):=(hW.trans hc1).at_ cs hB
 have b0 : w1.cell? ⟨W.heap.size,0,none⟩ = some (.slice A p.parts.length c):=by rw [hw1];simp
 have b1 : w1.cell? ⟨W.heap.size,1,none⟩ = some (.bool p.rest):=by rw [hw1];simp
 show Calls _ _ _ W fun e w'=>e = .returned (.bool (matchS p s)) ∧ Calm W w'
 rw [hrr]
 have HW:=Lib.hid hw1
 have HC:=Lib.hid hc1
 rw [hw1] at k0
 clear hw1 hc1 hr hrr hM cs hW b0 b1
 generalize p.parts.length = n at hm HW k0 hpc ⊢
 generalize p.rest = re at hm HW k0 ⊢
 go_enter Tryz.func81,Tryz.ntmps81
 go_wp2_with (go_at_call 82;rw [← HW.out];refine hm.mono ?_;rintro e w2 ⟨A2,n2,c2,rfl,hc2⟩)
 go_ret
 exact ⟨rfl,HC.out.trans hc2⟩
def hasV (b : Pat) (hs : List Pat) (s : Str) : Bool:=regErr b hs == 0 && hasS b hs s

set_option maxHeartbeats 1000000 in
theorem has_c (b : Pat) (hs : List Pat) (s : Str) (A : Option Addr) (c : Nat) (HA : Option Addr) (hc : Nat) (w : World) (hsl : s.length ≤ 10000) (hr : StrsR w A b.parts) (hnc : b.parts.length ≤ c) (hc47 : c ≤ 9223372036854775807) (hh : PatsR w HA hs) (hM : MaxL w) :
  Calls Tryz.prog 44 #[.agg #[.slice A b.parts.length c,.bool b.rest,.slice HA hs.length hc],.string (bs s)] w fun e w'=>e = .returned (.bool (hasV b hs s)) ∧ Calm w w':=by
 obtain ⟨hn,hhn⟩ : ∃ hn,hs.length = hn:=⟨_,rfl⟩
 obtain ⟨w1,hw1⟩ : ∃ w1,w1 = (w.alloc (.cells #[.slice A b.parts.length c,.bool b.rest,.slice HA hn hc] 68)).alloc (.cells #[.string (bs s)] 9):=⟨_,rfl⟩
 have hc1 : Calm w w1:=by rw [hw1];exact ((Calm.refl w).alloc _).alloc _
 have hs1 : w1.heap.size = w.heap.size + 2:=by rw [hw1];simp
 have k0 : w1.cell? ⟨w.heap.size,0,none⟩ = some (.slice A b.parts.length c):=by rw [hw1];simp
 have k1 : w1.cell? ⟨w.heap.size,1,none⟩ = some (.bool b.rest):=by rw [hw1];simp
 have k2 : w1.cell? ⟨w.heap.size,2,none⟩ = some (.slice HA hn hc):=by rw [hw1];simp
 have k3 : w1.cell? ⟨w.heap.size + 1,0,none⟩ = some (.string (bs s)):=by rw [hw1];simp
 obtain ⟨v,hv⟩ : ∃ v,regErr b hs = v:=⟨_,rfl⟩
 have hck:=gcheck_c b hs A c HA hc w1 (hr.calm hc1) hnc hc47 (hh.calm hc1)
 have HPred : Hid (∀ W : World,Calm w1 W → PredP 81 #[.pointer (some ⟨w.heap.size + 1,0,none⟩)] (fun p=>matchS p s) W):=fun W hW=>
  hclo_pred s W (w.heap.size + 1) hsl (hM.calm (hc1.trans hW)) (Nat.lt_of_lt_of_le (by rw [hs1];omega) hW.size) (hW.at_ k3 (by rw [hs1];omega))
 have HBase : Hid (∀ W : World,Calm w1 W → Calls Tryz.prog 81 #[.agg #[.slice A b.parts.length c,.bool b.rest],.pointer (some ⟨w.heap.size + 1,0,none⟩)] W fun e w'=>e = .returned (.bool (matchS b s)) ∧ Calm W w'):=fun W hW=>
  HPred.out W hW W (Calm.refl W) b A c ((hr.calm hc1).calm hW) hnc hc47
 have HAny : Hid (∀ W : World,Calm w1 W → Calls Tryz.prog 83 #[.slice HA hn hc,.func (.func 81) #[] #[.pointer (some ⟨w.heap.size + 1,0,none⟩)]] W fun e w'=>e = .returned (.bool (hs.any fun h=>matchS h s)) ∧ Calm W w'):=fun W hW=>by
  have:=pany_c 81 #[.pointer (some ⟨w.heap.size + 1,0,none⟩)] (enters_of Tryz.func81 (by kernel_rfl) rfl) (fun p=>matchS p s) hs HA hc W ((hh.calm hc1).calm hW) (HPred.out W hW)
  rw [hhn] at this
  exact this
 have eg : ∀ args w,(callFunc 81 args).run Tryz.prog w = .ok (.enter 81 args) w:=enters_of Tryz.func81 (by kernel_rfl) rfl
 have HV : Hid (hasV b hs s = (v == 0 && (matchS b s && !(hs.any fun h=>matchS h s)))):=by
  show hasV b hs s = _
  rw [hasV,hv]
  rfl
 rw [hv,hhn] at hck
 rw [hhn]
 have HW:=Lib.hid hw1
 have HC:=Lib.hid hc1
 have HS:=Lib.hid hs1
 have HK:=Lib.hid (And.intro k0 (And.intro k1 k2))
 clear hw1 hc1 hs1 k0 k1 k2 k3 hr hh hhn hv hM HPred hnc
 generalize b.parts.length = bn at *
 generalize b.rest = br at *
 generalize (hs.any fun h=>matchS h s) = ra at *
 go_enter Tryz.func44,Tryz.ntmps44
 by_cases h0 : v = 0
 ·subst h0
  rcases hm : matchS b s with _ | _
  ·rw [hm] at HBase HV
   go_wp2_with (first
    |(go_at_call 80;rw [← HW.out];refine hck.mono ?_;rintro e w2 ⟨rfl,hc2⟩;have l0:=hc2.at_ HK.out.1 (by rw [HS.out];omega);have l1:=hc2.at_ HK.out.2.1 (by rw [HS.out];omega);have l2:=hc2.at_ HK.out.2.2 (by rw [HS.out];omega))
    |(go_at_fn 81;refine (HBase.out _ hc2).mono ?_;rintro e w3 ⟨rfl,hc3⟩;have m2:=(hc2.trans hc3).at_ HK.out.2.2 (by rw [HS.out];omega))
    |(go_at_call 83;refine (HAny.out _ (hc2.trans hc3)).mono ?_;rintro e w4 ⟨rfl,hc4⟩))
   go_ret
   exact ⟨ret_bool (by rw [HV.out];simp),HC.out.trans (hc2.trans hc3)⟩
  ·rw [hm] at HBase HV
   go_wp2_with (first
    |(go_at_call 80;rw [← HW.out];refine hck.mono ?_;rintro e w2 ⟨rfl,hc2⟩;have l0:=hc2.at_ HK.out.1 (by rw [HS.out];omega);have l1:=hc2.at_ HK.out.2.1 (by rw [HS.out];omega);have l2:=hc2.at_ HK.out.2.2 (by rw [HS.out];omega))
    |(go_at_fn 81;refine (HBase.out _ hc2).mono ?_;rintro e w3 ⟨rfl,hc3⟩;have m2:=(hc2.trans hc3).at_ HK.out.2.2 (by rw [HS.out];omega))
    |(go_at_call 83;refine (HAny.out _ (hc2.trans hc3)).mono ?_;rintro e w4 ⟨rfl,hc4⟩))
   go_ret
   exact ⟨ret_bool (by rw [HV.out];simp),HC.out.trans (hc2.trans (hc3.trans hc4))⟩
 ·have hvb : (v != 0) = true:=by simpa using h0
  have hv0 : Hid (hasV b hs s = false):=by
   show hasV b hs s = false
   rw [HV.out]
   simp [h0]
  clear h0
  go_wp2_with (go_at_call 80;rw [← HW.out];refine hck.mono ?_;rintro e w2 ⟨rfl,hc2⟩)
  go_ret
  exact ⟨ret_bool hv0.out.symm,HC.out.trans hc2⟩
end Go.Proofs.YtnlnclefedohkaaGreatDoor
set_option linter.unusedVariables false
set_option linter.unusedSimpArgs false
namespace Go.Proofs.YtnlnclefedohkaaGreatDoor
open Go Go.RowKit Sy

end Go.Proofs.YtnlnclefedohkaaGreatDoor
set_option linter.unusedVariables false
set_option linter.unusedSimpArgs false
namespace Go.Proofs.YtnlnclefedohkaaGreatDoor
open Go Go.RowKit Sy

end Go.Proofs.YtnlnclefedohkaaGreatDoor
set_option linter.unusedVariables false
set_option linter.unusedSimpArgs false
namespace Go.Proofs.YtnlnclefedohkaaGreatDoor
open Go Go.RowKit Sy

theorem SmallE.v {x : Ent} (h : SmallE x) (hr : ruleErr x.rule = 0) : SmallV x.rule:=by
 have tw : Sy.Twin x.left x.right:=ruleErr_twin.1 hr
 have h1:=(patErr_iff.1 tw.lp).2.2.1
 have h2:=(patErr_iff.1 tw.rp).2.2.1
 exact ⟨by show x.left.parts.length ≤ _;omega,h.ls,by show x.right.parts.length ≤ _;omega,h.rs⟩
theorem EntA.few {w : World} {z : NewE} (h : EntA w z) (hs : SmallE z.e) (hg : gErr z.e.reg = 0) : EntU w z:=h.u hs (by have : z.e.reg.hs.length ≤ 64:=(gErr_zero hg).2.2;have e : z.e.reg.hs = z.e.hs:=rfl;rw [e] at this;omega)
theorem has_g (x : Ent) (s : Str) (v : Bool) (A : Option Addr) (n c : Nat) (HA : Option Addr) (hn hc : Nat) (re : Bool) (w : World) (hsl : s.length ≤ 10000) (hr : StrsR w A x.left.parts) (hnc : x.left.parts.length ≤ c) (hc47 : c ≤ 9223372036854775807) (hh : PatsR w HA x.hs) (hM : MaxL w) (hg : gErr x.reg = 0) (hv : hasS x.left x.hs s = v) (hnn : x.left.parts.length = n) (hhn : x.hs.length = hn) (hre : x.left.rest = re) :
  Calls Tryz.prog 44 #[.agg #[.slice A n c,.bool re,.slice HA hn hc],.string (bs s)] w fun e w'=>e = .returned (.bool v) ∧ Calm w w':=by
 have:=has_c x.left x.hs s A c HA hc w hsl hr hnc hc47 hh hM
 have e : hasV x.left x.hs s = v:=by
  unfold hasV
  rw [show regErr x.left x.hs = 0 from hg,hv]
  rfl
 rw [e,hnn,hhn,hre] at this
 exact this
end Go.Proofs.YtnlnclefedohkaaGreatDoor
