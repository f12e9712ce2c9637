/- The law StreamBetweenMeans: its walk. -/
import Derived.Test.YtdcdabbepnahnaaGreatDoorZMeetL
import Derived.Test.YtdcdabbepnahnaaGreatDoorZWalkM
import Derived.Test.YtdcdabbepnahnaaGreatDoorZMatch
import Derived.Test.YtdcdabbepnahnaaGreatDoorZCopyP
import Derived.Test.YtdcdabbepnahnaaGreatDoorZEntM
import Derived.Test.YtdcdabbepnahnaaGreatDoorZFwd
import Derived.Test.YtdcdabbepnahnaaGreatDoorZNarW
import Derived.Test.YtdcdabbepnahnaaGreatDoorZCheckW
import Derived.Test.YtdcdabbepnahnaaGreatDoorZFwdP
import Derived.Test.YtdcdabbepnahnaaGreatDoorZLocate
import Derived.Test.YtdcdabbepnahnaaGreatDoorZStepApp
import Derived.Test.YtdcdabbepnahnaaGreatDoorZStrLaw
import Derived.Test.YtdcdabbepnahnaaGreatDoorZMapO
import Derived.Test.YtdcdabbepnahnaaGreatDoorZPcB
import Derived.Test.YtdcdabbepnahnaaGreatDoorZFwdL2
import Derived.Test.YtdcdabbepnahnaaGreatDoorZMapV
import Derived.Test.YtdcdabbepnahnaaGreatDoorZBetS
set_option linter.unusedVariables false
set_option linter.unusedSimpArgs false
namespace Go.Proofs.YtdcdabbepnahnaaGreatDoor
open Go Go.RowKit Sy
def hasS (b : Pat) (hs : List Pat) (s : Str) : Bool:=matchS b s && !(hs.any fun h=>matchS h s)
theorem okPat_iff {p : Pat} : okPat p = true ↔ patErr p = 0:=by simp [okPat]
theorem hasS_hasR {b : Pat} {hs : List Pat} (hb : patErr b = 0) (hh : ∀ h ∈ hs,patErr h = 0) (s : Str) : hasS b hs s = hasR b hs s:=by
 unfold hasS hasR
 rcases hp : pathOf s with _ | l
 ·have : matchS b s = false:=by rw [matchS,hp]
  rw [this]
  rfl
 ·have h1 : matchS b s = matchL b l:=by
   rw [matchS,hp]
   simp only
   rw [okPat_iff.2 hb,Bool.true_and]
  have h2 : (hs.any fun h=>matchS h s) = hs.any fun h=>matchL h l:=by
   rw [Bool.eq_iff_iff,List.any_eq_true,List.any_eq_true]
   constructor
   ·rintro ⟨h,hm,he⟩
    refine ⟨h,hm,?_⟩
    rw [matchS,hp] at he
    simp only at he
    rw [Bool.and_eq_true] at he
    exact he.2
   ·rintro ⟨h,hm,he⟩
    refine ⟨h,hm,?_⟩
    rw [matchS,hp]
    simp only
    rw [okPat_iff.2 (hh h hm),he]
    rfl
  rw [h1,h2]
  rfl
end Go.Proofs.YtdcdabbepnahnaaGreatDoor
set_option linter.unusedVariables false
set_option linter.unusedSimpArgs false
namespace Go.Proofs.YtdcdabbepnahnaaGreatDoor
open Go Go.RowKit Sy
theorem match_b (p : Pat) (s : Str) (r : Bool) (A : Option Addr) (c : Nat) (w : World) (hs : s.length ≤ 10000) (hr : StrsR w A p.parts) (hpc : p.parts.length ≤ c) (hc47 : c ≤ 9223372036854775807) (hM : MaxL w) (h : matchS p s = r) :
  Calls Tryz.prog 80 #[.agg #[.slice A p.parts.length c,.bool p.rest],.string (bs s)] w fun e w'=>∃ A' n' c',e = .returned (.tuple #[.slice A' n' c',.bool r]) ∧ Calm w w':=
 (match_c p s A c w hs hr hpc (Nat.le_trans hc47 (by decide)) hM).mono fun e w' ⟨h1,h2⟩=>by
  rcases h1 with ⟨h3,A',c',h4,_⟩ | ⟨h3,h4⟩
  ·rw [h] at h3
   subst h3
   exact ⟨_,_,_,h4,h2⟩
  ·rw [h] at h3
   subst h3
   exact ⟨_,_,_,h4,h2⟩
set_option maxHeartbeats 1000000 in
theorem hclo_pred (s : Str) (w : World) (Bs : Nat) (hs : s.length ≤ 10000) (hM : MaxL w) (hB : Bs < w.heap.size) (cs : w.cell? ⟨Bs,0,none⟩ = some (.string (bs s))) :
  PredP 79 #[.pointer (some ⟨Bs,0,none⟩)] (fun p=>matchS p s) w:=by
 intro W hW p A c hr hpc hc47
 show Calls Tryz.prog 79 #[.agg #[.slice A p.parts.length c,.bool p.rest],.pointer (some ⟨Bs,0,none⟩)] W _
 obtain ⟨r,hrr⟩ : ∃ r,matchS p s = r:=⟨_,rfl⟩
 obtain ⟨w1,hw1⟩ : ∃ w1,w1 = W.alloc (.cells #[.slice A p.parts.length c,.bool p.rest] 51):=⟨_,rfl⟩
 have hc1 : Calm W w1:=by rw [hw1];exact (Calm.refl W).alloc _
 have hm:=match_b p s r A c w1 hs (hr.calm hc1) hpc hc47 (hM.calm (hW.trans hc1)) hrr
 have k0 : w1.cell? ⟨Bs,0,none⟩ = some (.string (bs s)):=(hW.trans hc1).at_ cs hB
 have b0 : w1.cell? ⟨W.heap.size,0,none⟩ = some (.slice A p.parts.length c):=by rw [hw1];simp
 have b1 : w1.cell? ⟨W.heap.size,1,none⟩ = some (.bool p.rest):=by rw [hw1];simp
 show Calls _ _ _ W fun e w'=>e = .returned (.bool (matchS p s)) ∧ Calm W w'
 rw [hrr]
 have HW:=Lib.hid hw1
 have HC:=Lib.hid hc1
 rw [hw1] at k0
 clear hw1 hc1 hr hrr hM cs hW b0 b1
 generalize p.parts.length = n at hm HW k0 hpc ⊢
 generalize p.rest = re at hm HW k0 ⊢
 go_enter Tryz.func79,Tryz.ntmps79
 go_wp2_with (go_at_call 80;rw [← HW.out];refine hm.mono ?_;rintro e w2 ⟨A2,n2,c2,rfl,hc2⟩)
 go_ret
 exact ⟨rfl,HC.out.trans hc2⟩
def hasV (b : Pat) (hs : List Pat) (s : Str) : Bool:=regErr b hs == 0 && hasS b hs s

set_option maxHeartbeats 1000000 in
theorem has_c (b : Pat) (hs : List Pat) (s : Str) (A : Option Addr) (c : Nat) (HA : Option Addr) (hc : Nat) (w : World) (hsl : s.length ≤ 10000) (hr : StrsR w A b.parts) (hnc : b.parts.length ≤ c) (hc47 : c ≤ 9223372036854775807) (hh : PatsR w HA hs) (hM : MaxL w) :
  Calls Tryz.prog 39 #[.agg #[.slice A b.parts.length c,.bool b.rest,.slice HA hs.length hc],.string (bs s)] w fun e w'=>e = .returned (.bool (hasV b hs s)) ∧ Calm w w':=by
 obtain ⟨hn,hhn⟩ : ∃ hn,hs.length = hn:=⟨_,rfl⟩
 obtain ⟨w1,hw1⟩ : ∃ w1,w1 = (w.alloc (.cells #[.slice A b.parts.length c,.bool b.rest,.slice HA hn hc] 67)).alloc (.cells #[.string (bs s)] 9):=⟨_,rfl⟩
 have hc1 : Calm w w1:=by rw [hw1];exact ((Calm.refl w).alloc _).alloc _
 have hs1 : w1.heap.size = w.heap.size + 2:=by rw [hw1];simp
 have k0 : w1.cell? ⟨w.heap.size,0,none⟩ = some (.slice A b.parts.length c):=by rw [hw1];simp
 have k1 : w1.cell? ⟨w.heap.size,1,none⟩ = some (.bool b.rest):=by rw [hw1];simp
 have k2 : w1.cell? ⟨w.heap.size,2,none⟩ = some (.slice HA hn hc):=by rw [hw1];simp
 have k3 : w1.cell? ⟨w.heap.size + 1,0,none⟩ = some (.string (bs s)):=by rw [hw1];simp
 obtain ⟨v,hv⟩ : ∃ v,regErr b hs = v:=⟨_,rfl⟩
 have hck:=gcheck_c b hs A c HA hc w1 (hr.calm hc1) hnc hc47 (hh.calm hc1)
 have HPred : Hid (∀ W : World,Calm w1 W → PredP 79 #[.pointer (some ⟨w.heap.size + 1,0,none⟩)] (fun p=>matchS p s) W):=fun W hW=>
  hclo_pred s W (w.heap.size + 1) hsl (hM.calm (hc1.trans hW)) (Nat.lt_of_lt_of_le (by rw [hs1];omega) hW.size) (hW.at_ k3 (by rw [hs1];omega))
 have HBase : Hid (∀ W : World,Calm w1 W → Calls Tryz.prog 79 #[.agg #[.slice A b.parts.length c,.bool b.rest],.pointer (some ⟨w.heap.size + 1,0,none⟩)] W fun e w'=>e = .returned (.bool (matchS b s)) ∧ Calm W w'):=fun W hW=>
  HPred.out W hW W (Calm.refl W) b A c ((hr.calm hc1).calm hW) hnc hc47
 have HAny : Hid (∀ W : World,Calm w1 W → Calls Tryz.prog 81 #[.slice HA hn hc,.func (.func 79) #[] #[.pointer (some ⟨w.heap.size + 1,0,none⟩)]] W fun e w'=>e = .returned (.bool (hs.any fun h=>matchS h s)) ∧ Calm W w'):=fun W hW=>by
  have:=pany_c 79 #[.pointer (some ⟨w.heap.size + 1,0,none⟩)] (enters_of Tryz.func79 (by kernel_rfl) rfl) (fun p=>matchS p s) hs HA hc W ((hh.calm hc1).calm hW) (HPred.out W hW)
  rw [hhn] at this
  exact this
 have eg : ∀ args w,(callFunc 79 args).run Tryz.prog w = .ok (.enter 79 args) w:=enters_of Tryz.func79 (by kernel_rfl) rfl
 have HV : Hid (hasV b hs s = (v == 0 && (matchS b s && !(hs.any fun h=>matchS h s)))):=by
  show hasV b hs s = _
  rw [hasV,hv]
  rfl
 rw [hv,hhn] at hck
 rw [hhn]
 have HW:=Lib.hid hw1
 have HC:=Lib.hid hc1
 have HS:=Lib.hid hs1
 have HK:=Lib.hid (And.intro k0 (And.intro k1 k2))
 clear hw1 hc1 hs1 k0 k1 k2 k3 hr hh hhn hv hM HPred hnc
 generalize b.parts.length = bn at *
 generalize b.rest = br at *
 generalize (hs.any fun h=>matchS h s) = ra at *
 go_enter Tryz.func39,Tryz.ntmps39
 by_cases h0 : v = 0
 ·subst h0
  rcases hm : matchS b s with _ | _
  ·rw [hm] at HBase HV
   go_wp2_with (first
    |(go_at_call 73;rw [← HW.out];refine hck.mono ?_;rintro e w2 ⟨rfl,hc2⟩;have l0:=hc2.at_ HK.out.1 (by rw [HS.out];omega);have l1:=hc2.at_ HK.out.2.1 (by rw [HS.out];omega);have l2:=hc2.at_ HK.out.2.2 (by rw [HS.out];omega))
    |(go_at_fn 79;refine (HBase.out _ hc2).mono ?_;rintro e w3 ⟨rfl,hc3⟩;have m2:=(hc2.trans hc3).at_ HK.out.2.2 (by rw [HS.out];omega))
    |(go_at_call 81;refine (HAny.out _ (hc2.trans hc3)).mono ?_;rintro e w4 ⟨rfl,hc4⟩))
   go_ret
   exact ⟨ret_bool (by rw [HV.out];simp),HC.out.trans (hc2.trans hc3)⟩
  ·rw [hm] at HBase HV
   go_wp2_with (first
    |(go_at_call 73;rw [← HW.out];refine hck.mono ?_;rintro e w2 ⟨rfl,hc2⟩;have l0:=hc2.at_ HK.out.1 (by rw [HS.out];omega);have l1:=hc2.at_ HK.out.2.1 (by rw [HS.out];omega);have l2:=hc2.at_ HK.out.2.2 (by rw [HS.out];omega))
    |(go_at_fn 79;refine (HBase.out _ hc2).mono ?_;rintro e w3 ⟨rfl,hc3⟩;have m2:=(hc2.trans hc3).at_ HK.out.2.2 (by rw [HS.out];omega))
    |(go_at_call 81;refine (HAny.out _ (hc2.trans hc3)).mono ?_;rintro e w4 ⟨rfl,hc4⟩))
   go_ret
   exact ⟨ret_bool (by rw [HV.out];simp),HC.out.trans (hc2.trans (hc3.trans hc4))⟩
 ·have hvb : (v != 0) = true:=by simpa using h0
  have hv0 : Hid (hasV b hs s = false):=by
   show hasV b hs s = false
   rw [HV.out]
   simp [h0]
  clear h0
  go_wp2_with (go_at_call 73;rw [← HW.out];refine hck.mono ?_;rintro e w2 ⟨rfl,hc2⟩)
  go_ret
  exact ⟨ret_bool hv0.out.symm,HC.out.trans hc2⟩
end Go.Proofs.YtdcdabbepnahnaaGreatDoor
set_option linter.unusedVariables false
set_option linter.unusedSimpArgs false
namespace Go.Proofs.YtdcdabbepnahnaaGreatDoor
open Go Go.RowKit Sy

end Go.Proofs.YtdcdabbepnahnaaGreatDoor
set_option linter.unusedVariables false
set_option linter.unusedSimpArgs false
namespace Go.Proofs.YtdcdabbepnahnaaGreatDoor
open Go Go.RowKit Sy
def bySE (es : List Ent) (s : Str) : Option Str:=match es.find? (fun x=>hasS x.left x.hs s) with
 |some x=>fwd x.rule s
 |none=>none
def byV (es : List Ent) (s : Str) : Value:=.tuple #[.string (bs ((bySE es s).getD [])),.bool (bySE es s).isSome]
theorem bySE_hit {es : List Ent} {s : Str} {k : Nat} {x : Ent} (hk : es[k]? = some x) (hx : hasS x.left x.hs s = true) (hall : ∀ j q,j < k → es[j]? = some q → hasS q.left q.hs s = false) : byV es s = fwdV x.rule s:=by
 have hf : es.find? (fun x=>hasS x.left x.hs s) = some x:=by
  obtain ⟨hlt,rfl⟩:=List.getElem?_eq_some_iff.1 hk
  rw [List.find?_eq_some_iff_getElem]
  exact ⟨hx,k,hlt,rfl,fun j hj=>by rw [hall j _ hj (List.getElem?_eq_getElem (by omega))];rfl⟩
 unfold byV bySE fwdV
 rw [hf]
theorem bySE_miss {es : List Ent} {s : Str} (hall : ∀ j q,j < es.length → es[j]? = some q → hasS q.left q.hs s = false) : byV es s = .tuple #[.string (bs []),.bool false]:=by
 have hf : es.find? (fun x=>hasS x.left x.hs s) = none:=by
  rw [List.find?_eq_none]
  intro x hx
  obtain ⟨j,hj,e⟩:=List.mem_iff_getElem.1 hx
  rw [hall j x hj (by rw [List.getElem?_eq_getElem hj,e])]
  simp
 unfold byV bySE
 rw [hf]
 rfl

end Go.Proofs.YtdcdabbepnahnaaGreatDoor
set_option linter.unusedVariables false
set_option linter.unusedSimpArgs false
namespace Go.Proofs.YtdcdabbepnahnaaGreatDoor
open Go Go.RowKit Sy

set_option maxHeartbeats 4000000 in
theorem check1_c (es : List Ent) (n c g : Nat) (A : Option Addr) (er : Int) (w : World) (h : EntsA w A es) (hcn : n ≤ c) (hcc : c ≤ 9223372036854775807) (hs : ∀ x ∈ es,SmallE x) (hn : es.length = n) (hr : (mapE es).2 = er) (k0 : w.cell? ⟨g,0,none⟩ = some (.slice A n c)) (hg : g < w.heap.size) :
  Calls Tryz.prog 36 #[.slice (some ⟨g,0,none⟩) 1 1] w fun e w'=>e = .returned (.int .i64 er) ∧ Calm w w':=by
 obtain ⟨ix,hix⟩ : ∃ ix,(mapE es).1 = ix:=⟨_,rfl⟩
 have KC:=check_c es n c A w h hcn hcc hs hn
 rw [hr,hix] at KC
 have HKC:=Lib.hid KC
 clear h hs hn hr hix KC
 go_enter Tryz.func36,Tryz.ntmps36
 go_wp2_with fail
 go_loopw [9] (fun u wr=>(u = .int .i64 0 ∧ w = wr) ∨ (u = .int .i64 1 ∧ er = 0 ∧ Hid (Calm w wr))) (fun u _=>1 - (intOf u).toNat)
 case atStart=>exact .inl ⟨rfl,rfl⟩
 case round=>
  rcases hrel with ⟨rfl,rfl⟩ | ⟨rfl,rfl,HC⟩
  ·go_wp2_with fail
   refine HKC.out.mono ?_
   rintro e w2 ⟨rfl,hc2⟩
   by_cases h0 : er = 0
   ·subst h0
    go_wp2_with fail
    go_roundw
    case rel=>exact .inr ⟨by go_num,trivial,hc2⟩
    case measure=>simp [intOf]
   ·have hb : (er != 0) = true:=by simpa using h0
    go_wp2_with fail
    go_ret
    exact ⟨rfl,hc2⟩
  ·go_wp2_with fail
   go_ret
   exact ⟨rfl,HC.out⟩
end Go.Proofs.YtdcdabbepnahnaaGreatDoor
set_option linter.unusedVariables false
set_option linter.unusedSimpArgs false
namespace Go.Proofs.YtdcdabbepnahnaaGreatDoor
open Go Go.RowKit Sy

theorem SmallE.v {x : Ent} (h : SmallE x) (hr : ruleErr x.rule = 0) : SmallV x.rule:=by
 have tw : Sy.Twin x.left x.right:=ruleErr_twin.1 hr
 have h1:=(patErr_iff.1 tw.lp).2.2.1
 have h2:=(patErr_iff.1 tw.rp).2.2.1
 exact ⟨by show x.left.parts.length ≤ _;omega,h.ls,by show x.right.parts.length ≤ _;omega,h.rs⟩
def mfV (es : List Ent) (s : Str) : Value:=if (mapE es).2 = 0 then byV es s else .tuple #[.string (bs []),.bool false]
theorem EntA.few {w : World} {z : NewE} (h : EntA w z) (hs : SmallE z.e) (hg : gErr z.e.reg = 0) : EntU w z:=h.u hs (by have : z.e.reg.hs.length ≤ 64:=(gErr_zero hg).2.2;have e : z.e.reg.hs = z.e.hs:=rfl;rw [e] at this;omega)
theorem has_g (x : Ent) (s : Str) (v : Bool) (A : Option Addr) (n c : Nat) (HA : Option Addr) (hn hc : Nat) (re : Bool) (w : World) (hsl : s.length ≤ 10000) (hr : StrsR w A x.left.parts) (hnc : x.left.parts.length ≤ c) (hc47 : c ≤ 9223372036854775807) (hh : PatsR w HA x.hs) (hM : MaxL w) (hg : gErr x.reg = 0) (hv : hasS x.left x.hs s = v) (hnn : x.left.parts.length = n) (hhn : x.hs.length = hn) (hre : x.left.rest = re) :
  Calls Tryz.prog 39 #[.agg #[.slice A n c,.bool re,.slice HA hn hc],.string (bs s)] w fun e w'=>e = .returned (.bool v) ∧ Calm w w':=by
 have:=has_c x.left x.hs s A c HA hc w hsl hr hnc hc47 hh hM
 have e : hasV x.left x.hs s = v:=by
  unfold hasV
  rw [show regErr x.left x.hs = 0 from hg,hv]
  rfl
 rw [e,hnn,hhn,hre] at this
 exact this
set_option maxHeartbeats 4000000 in
theorem mfwd_c (es : List Ent) (s : Str) (n c : Nat) (A : Option Addr) (w : World) (h : EntsA w A es) (hcn : n ≤ c) (hcc : c ≤ 9223372036854775807) (hn : es.length = n) (hsm : ∀ x ∈ es,SmallE x) (hsl : s.length ≤ 10000) (hM : MaxL w) :
  Calls Tryz.prog 16 #[.slice A n c,.string (bs s)] w fun e w'=>e = .returned (mfV es s) ∧ Calm w w':=by
 have hl : n ≤ 1048576:=by rw [← hn];exact h.1
 obtain ⟨er,her⟩ : ∃ er,(mapE es).2 = er:=⟨_,rfl⟩
 obtain ⟨w1,hw1⟩ : ∃ w1,w1 = w.alloc (.cells #[.slice A n c] 25):=⟨_,rfl⟩
 have hc1 : Calm w w1:=by rw [hw1];exact (Calm.refl w).alloc _
 have KC:=check1_c es n c w.heap.size A er w1 (h.calm hc1) hcn hcc hsm hn her (by rw [hw1];simp) (by rw [hw1];simp)
 have HV0 : er ≠ 0 → Hid (mfV es s = .tuple #[.string (bs []),.bool false]):=fun h0=>by
  show mfV es s = _
  unfold mfV
  rw [her,if_neg h0]
 have HV1 : er = 0 → Hid (mfV es s = byV es s ∧ ∀ x ∈ es,ruleErr x.rule = 0 ∧ gErr x.reg = 0):=fun h0=>by
  refine ⟨?_,(mapE_zero (her.trans h0)).1.good⟩
  show mfV es s = _
  unfold mfV
  rw [her,if_pos h0]
 have HE:=Lib.hid h
 have HN:=Lib.hid hn
 have HS:=Lib.hid hsm
 have HM:=Lib.hid hM
 have HW:=Lib.hid hw1
 have HC:=Lib.hid hc1
 have HKC:=Lib.hid KC
 clear h hn hsm hM hw1 hc1 KC her
 go_enter Tryz.func16,Tryz.ntmps16
 by_cases h0 : er = 0
 ·subst h0
  have HV:=HV1 rfl
  clear HV0 HV1
  go_wp2_with fail
  rw [← HW.out]
  refine HKC.out.mono ?_
  rintro e w2 ⟨rfl,hc2⟩
  have HC2 : Hid (Calm w w2):=HC.out.trans hc2
  clear hc2
  go_wp2_with fail
  go_loopw [14] (fun u wr=>∃ k : Nat,k ≤ n ∧ u = .int .i64 k ∧ Hid (∀ j q,j < k → es[j]? = some q → hasS q.left q.hs s = false) ∧ Hid (Calm w wr)) (fun u _=>n - (intOf u).toNat)
  case atStart=>exact ⟨0,Nat.zero_le _,rfl,fun j h hj=>absurd hj (Nat.not_lt_zero _),HC2.out⟩
  case round=>
   obtain ⟨k,hk,rfl,HI,HCr⟩:=hrel
   obtain ⟨wq,rfl⟩ : ∃ wq,wq = wr:=⟨_,rfl⟩
   by_cases hlt : k < n
   ·obtain ⟨b,o,z,rfl,hb,hz,c0,c1,c2,c3,c4,hua⟩:=(HE.out.calm HCr.out).get (k:=k) (by rw [HN.out];exact hlt)
    have hmem:=List.mem_of_getElem? hz
    have hgd:=HV.out.2 z.e hmem
    have hu:=hua.few (HS.out _ hmem) hgd.2
    have hsv:=(HS.out _ hmem).v hgd.1
    obtain ⟨e0,he0⟩ : ∃ e0,z.e = e0:=⟨_,rfl⟩
    have ul:=hu.l
    have ur:=hu.r
    have uh:=hu.h
    rw [he0] at c0 c1 c2 c3 c4 ul ur uh hz hgd hsv
    obtain ⟨nl,hnl⟩ : ∃ nl,e0.left.parts.length = nl:=⟨_,rfl⟩
    obtain ⟨nr,hnr⟩ : ∃ nr,e0.right.parts.length = nr:=⟨_,rfl⟩
    obtain ⟨lr,hlr⟩ : ∃ lr,e0.left.rest = lr:=⟨_,rfl⟩
    obtain ⟨rr,hrr⟩ : ∃ rr,e0.right.rest = rr:=⟨_,rfl⟩
    obtain ⟨hn,hhn⟩ : ∃ hn,e0.hs.length = hn:=⟨_,rfl⟩
    rw [hnl] at c0
    rw [hlr] at c1
    rw [hnr] at c2
    rw [hrr] at c3
    rw [hhn] at c4
    obtain ⟨v,hv⟩ : ∃ v,hasS e0.left e0.hs s = v:=⟨_,rfl⟩
    have KG : Hid (∀ W,Calls Tryz.prog 35 #[entV z.LA z.RA z.HA nl z.lc nr z.rc hn z.hc lr rr] W fun e w'=>e = .returned (.agg #[.slice z.LA nl z.lc,.bool lr,.slice z.HA hn z.hc]) ∧ Calm W w'):=fun W=>left_c _ _ _ _ _ _ _ _ _ _ _ W
    have KL : Hid (∀ W,Calls Tryz.prog 38 #[entV z.LA z.RA z.HA nl z.lc nr z.rc hn z.hc lr rr] W fun e w'=>e = .returned (.agg #[.bool false,.slice z.LA nl z.lc,.bool lr,.slice z.RA nr z.rc,.bool rr]) ∧ Calm W w'):=fun W=>line_c _ _ _ _ _ _ _ _ _ _ _ W
    have KH : Hid (∀ W,Calm wq W → Calls Tryz.prog 39 #[.agg #[.slice z.LA nl z.lc,.bool lr,.slice z.HA hn z.hc],.string (bs s)] W fun e w'=>e = .returned (.bool v) ∧ Calm W w'):=fun W hW=>
     has_g e0 s v z.LA nl z.lc z.HA hn z.hc lr W hsl (ul.calm hW).r ul.room ul.cap (uh.calm hW) (HM.out.calm (HCr.out.trans hW)) hgd.2 hv hnl hhn hlr
    have KF : Hid (∀ W,Calm wq W → Calls Tryz.prog 40 #[.agg #[.bool false,.slice z.LA nl z.lc,.bool lr,.slice z.RA nr z.rc,.bool rr],.string (bs s)] W fun e w'=>e = .returned (fwdV e0.rule s) ∧ Calm W w'):=fun W hW=>by
     have:=fwd_c e0.rule ⟨z.LA,z.lc,z.RA,z.rc⟩ s W ⟨(ul.calm hW).r.toU,(ur.calm hW).r.toU,ul.room,ur.room,ul.cap,ur.cap⟩ hsv hsl (HM.out.calm (HCr.out.trans hW))
     unfold ruleV Ent.rule at this
     simp only [hnl,hnr,hlr,hrr] at this
     exact this
    have HZ:=Lib.hid hz
    have HVv:=Lib.hid hv
    obtain ⟨B,hB⟩ : ∃ B,wq.heap.size = B:=⟨_,rfl⟩
    obtain ⟨wb,hwb⟩ : ∃ wb,wb = wq.alloc (.cells #[.slice z.LA nl z.lc,.bool lr,.slice z.RA nr z.rc,.bool rr,.slice z.HA hn z.hc] 73):=⟨_,rfl⟩
    have hf : FiveB wb B (.slice z.LA nl z.lc) (.bool lr) (.slice z.RA nr z.rc) (.bool rr) (.slice z.HA hn z.hc):=by
     rw [hwb,← hB]
     exact FiveB.new wq _ _ _ _ _ _
    have hcb : Calm wq wb:=by
     show Below _ _ _
     rw [hwb]
     exact (Calm.refl _).alloc _
    have HF:=Lib.hid hf
    have HCb:=Lib.hid hcb
    have HWb:=Lib.hid hwb
    have HBB:=Lib.hid hB
    clear hz he0 hu hua ul ur uh hnl hnr hlr hrr hhn hv hf hcb hwb hB hmem hgd hsv
    go_wp2_with fail
    rw [← HWb.out]
    refine (KG.out wb).mono ?_
    rintro e w3 ⟨rfl,hc3⟩
    have HC3 : Hid (Calm wb w3):=hc3
    rw [HBB.out]
    clear c0 c1 c2 c3 c4 hc3
    go_wp2_with fail
    refine (KH.out w3 (HCb.out.trans HC3.out)).mono ?_
    rintro e w4 ⟨rfl,hc4⟩
    have HC4 : Hid (Calm wb w4):=HC3.out.trans hc4
    clear hc4
    cases v with
    |false=>
     go_wp2_with fail
     go_roundw
     case rel=>exact ⟨k + 1,by omega,by go_num,none_step (pr:=fun q : Ent=>hasS q.left q.hs s) HZ.out HVv.out HI.out,HCr.out.trans (HCb.out.trans HC4.out)⟩
     case measure=>simp [intOf];omega
    |true=>
     have f3:=HF.out.calm HC4.out
     have c0:=f3.c0
     have c1:=f3.c1
     have c2:=f3.c2
     have c3:=f3.c3
     have c4:=f3.c4
     have HBy : Hid (mfV es s = fwdV e0.rule s):=HV.out.1.trans (bySE_hit HZ.out HVv.out HI.out)
     clear f3
     go_wp2_with fail
     refine (KL.out w4).mono ?_
     rintro e w5 ⟨rfl,hc5⟩
     have HC5 : Hid (Calm wq w5):=HCb.out.trans (HC4.out.trans hc5)
     clear hc5
     go_wp2_with fail
     refine (KF.out w5 HC5.out).mono ?_
     rintro e w6 ⟨rfl,hc6⟩
     unfold fwdV
     clear c0 c1 c2 c3 c4
     go_wp2_with fail
     go_ret2
     exact ⟨by rw [HBy.out];rfl,HCr.out.trans (HC5.out.trans hc6)⟩
   ·obtain rfl : k = n:=by omega
    have HBy : Hid (mfV es s = .tuple #[.string (bs []),.bool false]):=HV.out.1.trans (bySE_miss (fun j q hj hq=>HI.out j q (by rw [HN.out] at hj;exact hj) hq))
    go_wp2_with fail
    go_ret2
    exact ⟨by rw [HBy.out];rfl,HCr.out⟩
 ·have HV:=HV0 h0
  have hb : (er != 0) = true:=by simpa using h0
  clear HV0 HV1 h0
  go_wp2_with fail
  rw [← HW.out]
  refine HKC.out.mono ?_
  rintro e w2 ⟨rfl,hc2⟩
  go_wp2_with fail
  go_ret2
  exact ⟨by rw [HV.out];rfl,HC.out.trans hc2⟩
end Go.Proofs.YtdcdabbepnahnaaGreatDoor
set_option linter.unusedVariables false
set_option linter.unusedSimpArgs false
namespace Go.Proofs.YtdcdabbepnahnaaGreatDoor
open Go Go.RowKit Sy

def partsL (x : Line) : List Str:=x.path.parts ++ x.frm.parts
def sumL (ls : List Line) : Nat:=(ls.map fun x=>(partsL x).length).sum
def sumS (ss : List Strm) (k : Nat) : Nat:=((ss.take k).map fun s=>sumL s.paths).sum
def okS (s : Strm) : Bool:=decide (s.name.length + s.parent.length ≤ 100) && decide (s.paths.length ≤ 15) && s.paths.all fun x=>(partsL x).all fun p=>decide (p.length ≤ 40)
def smallS (ss : List Strm) : Bool:=ss.all okS && decide (ss.length ≤ 20) && decide (sumS ss ss.length ≤ 150)
theorem sumL_succ {ls : List Line} {k : Nat} {x : Line} (h : ls[k]? = some x) : sumL (ls.take (k + 1)) = sumL (ls.take k) + (x.path.parts.length + x.frm.parts.length):=by
 obtain ⟨hlt,rfl⟩:=List.getElem?_eq_some_iff.1 h
 unfold sumL
 rw [List.take_succ_eq_append_getElem hlt,List.map_append,List.sum_append]
 congr 1
 show [(partsL ls[k]).length].sum = _
 rw [partsL,List.length_append]
 simp
theorem sumS_succ {ss : List Strm} {k : Nat} {s : Strm} (h : ss[k]? = some s) : sumS ss (k + 1) = sumS ss k + sumL s.paths:=by
 obtain ⟨hlt,rfl⟩:=List.getElem?_eq_some_iff.1 h
 unfold sumS
 rw [List.take_succ_eq_append_getElem hlt,List.map_append,List.sum_append]
 simp
theorem le_sum_of {l : List Nat} {x : Nat} (h : x ∈ l) : x ≤ l.sum:=by
 induction l with
 |nil=>cases h
 |cons y t ih=>
  rw [List.sum_cons]
  rcases List.mem_cons.1 h with rfl | h
  ·omega
  ·have:=ih h
   omega
theorem smallS_small {ss : List Strm} (h : smallS ss = true) : SmallSS ss ∧ ss.length ≤ 20:=by
 rw [smallS,Bool.and_eq_true,Bool.and_eq_true,decide_eq_true_eq,decide_eq_true_eq] at h
 refine ⟨fun s hs x hx=>?_,h.1.2⟩
 have h1:=List.all_eq_true.1 h.1.1 s hs
 simp only [okS,Bool.and_eq_true] at h1
 have h2:=List.all_eq_true.1 h1.2 x hx
 have h3 : sumL s.paths ≤ sumS ss ss.length:=by
  unfold sumS
  rw [List.take_length]
  exact le_sum_of (List.mem_map.2 ⟨s,hs,rfl⟩)
 have h4 : (partsL x).length ≤ sumL s.paths:=le_sum_of (List.mem_map.2 ⟨x,hx,rfl⟩)
 have h5 : (partsL x).length = x.path.parts.length + x.frm.parts.length:=by rw [partsL,List.length_append]
 have h6:=List.all_eq_true.1 h2
 exact ⟨by show x.path.parts.length ≤ 200;omega,fun p hp=>by have:=h6 p (List.mem_append_left _ hp);simp at this;omega,by show x.frm.parts.length ≤ 200;omega,fun p hp=>by have:=h6 p (List.mem_append_right _ hp);simp at this;omega⟩
theorem smallS_bad {ss : List Strm} {k : Nat} {s : Strm} (h : ss[k]? = some s) (hb : okS s = false) : smallS ss = false:=by
 have : ss.all okS = false:=by
  rw [List.all_eq_false]
  exact ⟨s,List.mem_of_getElem? h,by rw [hb];decide⟩
 rw [smallS,this]
 rfl
theorem okS_part {s : Strm} {x : Line} {p : Str} (hx : x ∈ s.paths) (hp : p ∈ partsL x) (hl : ¬ p.length ≤ 40) : okS s = false:=by
 have : (s.paths.all fun x=>(partsL x).all fun p=>decide (p.length ≤ 40)) = false:=by
  rw [List.all_eq_false]
  refine ⟨x,hx,?_⟩
  rw [Bool.not_eq_true,List.all_eq_false]
  exact ⟨p,hp,by simpa using hl⟩
 rw [okS,this]
 simp

set_option maxRecDepth 100000 in
set_option maxHeartbeats 8000000 in
theorem smallS_c (ss : List Strm) (y : Bool) (A : Option Addr) (n c : Nat) (w : World) (hv : StrmsU w A ss) (hn : ss.length = n) (hy : smallS ss = y) :
  Calls Tryz.prog 7 #[.slice A n c] w fun e w'=>e = .returned (.bool y) ∧ Calm w w':=by
 have hlen:=hv.len
 rw [hn] at hlen
 have HN:=Lib.hid hn
 have HV:=Lib.hid hv
 have HY:=Lib.hid hy
 clear hn hv hy
 go_enter Tryz.func7,Tryz.ntmps7
 go_wp2_with fail
 go_loopw [3,12] (fun u q wr=>∃ (k S : Nat),k ≤ n ∧ q = .int .i64 k ∧ u = .int .i64 S ∧ S ≤ k * 40000000 ∧ Hid (sumS ss k = S) ∧ Hid (∀ j s,j < k → ss[j]? = some s → okS s = true) ∧ Hid (Calm w wr)) (fun _ q _=>n - (intOf q).toNat)
 case atStart=>exact ⟨0,0,Nat.zero_le _,rfl,rfl,Nat.zero_le _,rfl,fun j r hj=>absurd hj (Nat.not_lt_zero _),Calm.refl _⟩
 case round=>
  obtain ⟨k,S,hk,rfl,rfl,hS,HS,HG,HC⟩:=hrel
  obtain ⟨wq,rfl⟩ : ∃ wq,wq = wr:=⟨_,rfl⟩
  by_cases hlt : k < n
  ·obtain ⟨b,o,s,PA,pc,rfl,hb,hr,hat,hsu⟩:=(HV.out.calm HC.out).get (k:=k) (by rw [HN.out];exact hlt)
   have c0:=hat.c0
   have c1:=hat.c1
   have c2:=hat.c2
   obtain ⟨nm,hnm⟩ : ∃ nm,s.name = nm:=⟨_,rfl⟩
   obtain ⟨pa,hpa⟩ : ∃ pa,s.parent = pa:=⟨_,rfl⟩
   obtain ⟨np,hnp⟩ : ∃ np,s.paths.length = np:=⟨_,rfl⟩
   have hnl:=hsu.name
   have hpl:=hsu.par
   have hnpl:=hsu.lines.len
   rw [hnm] at c0 hnl
   rw [hpa] at c1 hpl
   rw [hnp] at c2 hnpl
   have hb0:=bs_size nm
   have hb1:=bs_size pa
   have HLs:=Lib.hid hsu.lines
   have HR:=Lib.hid hr
   have HX:=Lib.hid (And.intro hnm (And.intro hpa hnp))
   have hbox:=BoxS.new wq nm pa PA np pc
   have HB:=Lib.hid hbox
   clear hat hsu hr hnm hpa hnp hbox
   by_cases h100 : nm.length + pa.length ≤ 100
   ·by_cases h15 : np ≤ 15
    ·have h1 : Hid (nm.length + pa.length ≤ 100):=h100
     have hd1 : decide ((100 : Int) < (nm.length : Int) + (pa.length : Int)) = false:=by simp;omega
     have hd2 : decide ((15 : Int) < (np : Int)) = false:=by simp;omega
     go_wp2_with fail
     obtain ⟨wB,hwB⟩ : ∃ wB,wB = wq.alloc (.cells #[.string (bs nm),.string (bs pa),.slice PA np pc] 49):=⟨_,rfl⟩
     rw [← hwB]
     have hcB : Calm wq wB:=by rw [hwB];exact (Calm.refl wq).alloc _
     have HCB:=Lib.hid hcB
     clear hwB hcB
     go_loopw [3,33] (fun u q wr=>∃ (k2 S2 : Nat),k2 ≤ np ∧ q = .int .i64 k2 ∧ u = .int .i64 S2 ∧ S2 ≤ S + k2 * 2097152 ∧ Hid (sumS ss k + sumL (s.paths.take k2) = S2) ∧ Hid (∀ j x,j < k2 → s.paths[j]? = some x → ∀ p ∈ partsL x,p.length ≤ 40) ∧ Hid (Calm wB wr)) (fun _ q _=>np - (intOf q).toNat)
     case atStart=>exact ⟨0,S,Nat.zero_le _,rfl,rfl,by omega,by show _ = _;rw [HS.out];rfl,fun j r hj=>absurd hj (Nat.not_lt_zero _),Calm.refl _⟩
     case round=>
      obtain ⟨k2,S2,hk2,rfl,rfl,hS2,HS2,HG2,HC2⟩:=hrel
      obtain ⟨wt,rfl⟩ : ∃ wt,wt = wr:=⟨_,rfl⟩
      by_cases hlt2 : k2 < np
      ·obtain ⟨b',o',x,a,rfl,hb',hx,hxa,hru⟩:=(HLs.out.calm (HCB.out.trans HC2.out)).get (k:=k2) (by rw [HX.out.2.2];exact hlt2)
       have d0:=hxa.c0
       have d1:=hxa.c1
       have d2:=hxa.c2
       have d3:=hxa.c3
       have d4:=hxa.c4
       obtain ⟨κ,h0⟩ : ∃ κ,x.kind = κ:=⟨_,rfl⟩
       obtain ⟨nl,h1⟩ : ∃ npp,x.path.parts.length = npp:=⟨_,rfl⟩
       obtain ⟨nr,h2⟩ : ∃ nf,x.frm.parts.length = nf:=⟨_,rfl⟩
       obtain ⟨rp,h3⟩ : ∃ rp,x.path.rest = rp:=⟨_,rfl⟩
       obtain ⟨rf,h4⟩ : ∃ rf,x.frm.rest = rf:=⟨_,rfl⟩
       have hnll : nl ≤ 1048576:=by rw [← h1];exact hru.lr.len
       have hnrl : nr ≤ 1048576:=by rw [← h2];exact hru.rr.len
       rw [h0] at d0
       rw [h1] at d1
       rw [h3] at d2
       rw [h2] at d3
       rw [h4] at d4
       have HX2:=Lib.hid hx
       obtain ⟨wL,hwL⟩ : ∃ wL,wL = wt.alloc (.cells #[.int .i64 κ,.slice a.AL nl a.cl,.bool rp,.slice a.AR nr a.cr,.bool rf] 53):=⟨_,rfl⟩
       have hcL : Calm wt wL:=by rw [hwL];exact (Calm.refl wt).alloc _
       have hbl : BoxL wL wt.heap.size a κ nl nr rp rf:=by rw [hwL];exact BoxL.new wt a κ nl nr rp rf
       have g1:=hbl.c1
       have g3:=hbl.c3
       have hzL:=hbl.lt
       have HU : Hid (RuleU wL a x.rule):=hru.calm hcL
       have HWL:=Lib.hid hwL
       have HCL:=Lib.hid hcL
       have HNl:=Lib.hid (And.intro h1 h2)
       clear hxa hru h0 h1 h2 h3 h4 hx hwL hcL hbl
       have hlm : Hid ((partsL x).length = nl + nr):=by show (partsL x).length = _;rw [partsL,List.length_append,HNl.out.1,HNl.out.2]
       go_wp2_with fail
       rw [← HWL.out]
       go_region_law ((first
        |(refine step_app rfl (.const (.slice none 0 0)) (.tmp 50) rfl wL (.slice none 0 0) [] rfl (OwnS.nil (by first | exact Calm.refl _ | exact (Calm.refl _).drewN _)) a.AL nl a.cl (by simp [Act.eval,Act.put]) x.path.parts HNl.out.1 (HU.out.lr.calm (by first | exact Calm.refl _ | exact (Calm.refl _).drewN _)) (by simp;omega) ?_;intro v5 w5 hown5;have q3:=hown5.calm.at_ g3 hzL)
        |(refine step_app rfl (.tmp 51) (.tmp 54) rfl wL v5 x.path.parts (by simp [Act.eval,Act.put]) (hown5.to (by first | exact Calm.refl _ | exact (Calm.refl _).drewN _)) a.AR nr a.cr (by simp [Act.eval,Act.put]) x.frm.parts HNl.out.2 (HU.out.rr.calm (hown5.calm.trans (by first | exact Calm.refl _ | exact (Calm.refl _).drewN _))) (by rw [HNl.out.1];omega) ?_;intro v6 w6 hown6;obtain ⟨A9,c9,hv9,hle9,hat9⟩:=owns_strs hown6.own;rw [show (x.path.parts ++ x.frm.parts).length = nl + nr from hlm.out] at hv9;subst hv9)))
       all_goals
        have hpl : Hid (∀ p ∈ partsL x,p.length ≤ 1048576):=fun p hp=>by
         rcases List.mem_append.1 hp with h | h
         ·exact HU.out.lr.each p h
         ·exact HU.out.rr.each p h
        have H6:=Lib.hid hown6
        have HAt : Hid (0 < (partsL x).length → ∃ g,A9 = some ⟨g,0,none⟩ ∧ wL.heap.size ≤ g ∧ g < w6.heap.size ∧ ∀ (k : Nat) l,(partsL x)[k]? = some l → w6.cell? ⟨g,k,none⟩ = some (.string (bs l))):=hat9
        clear hown6 hat9 hown5 q3 g1 g3 hle9
        simp only [List.getElem_toArray,List.getElem_cons_succ,List.getElem_cons_zero,Act.put,List.setIfInBounds_toArray,List.set_cons_succ,List.set_cons_zero]
        go_wp2
        go_loop [57] (fun q=>∃ i : Nat,i ≤ nl + nr ∧ q = .int .i64 i ∧ Hid (∀ j p,j < i → (partsL x)[j]? = some p → p.length ≤ 40)) (fun q=>(nl + nr) - (intOf q).toNat)
        case atStart=>exact ⟨0,Nat.zero_le _,rfl,fun j x hj=>absurd hj (Nat.not_lt_zero _)⟩
        case round=>
         obtain ⟨i,hi,rfl,HI⟩:=hrel
         by_cases hilt : i < nl + nr
         ·obtain ⟨g,rfl,_,hg,hcells⟩:=HAt.out (by rw [hlm.out];omega)
          obtain ⟨p,hp⟩ : ∃ p,(partsL x)[i]? = some p:=⟨_,List.getElem?_eq_getElem (by rw [hlm.out];exact hilt)⟩
          have hcx:=hcells i p hp
          have hxl:=hpl.out p (List.mem_of_getElem? hp)
          have HP:=Lib.hid hp
          clear hcells hp
          have hsz:=bs_size p
          by_cases h40 : p.length ≤ 40
          ·go_wp2
           go_round
           case rel=>exact ⟨i + 1,by omega,by go_num,snoc_at (P:=fun p : Str=>p.length ≤ 40) HP.out h40 HI.out⟩
           case measure=>simp [intOf];omega
          ·have hE : Hid (smallS ss = false):=smallS_bad HR.out (okS_part (List.mem_of_getElem? HX2.out) (List.mem_of_getElem? HP.out) h40)
           go_wp2
           go_ret
           exact ⟨ret_bool (by rw [← HY.out,hE.out]),HC.out.trans (HCB.out.trans (HC2.out.trans (HCL.out.trans H6.out.calm)))⟩
         ·obtain rfl : i = nl + nr:=by omega
          go_wp2
          go_roundw
          case rel=>
           refine ⟨k2 + 1,S2 + (nl + nr),by omega,by go_num,by go_num,by omega,?_,fun j q hj hq p hp=>?_,HC2.out.trans (HCL.out.trans H6.out.calm)⟩
           ·show _ = _
            rw [sumL_succ HX2.out,← HS2.out,HNl.out.1,HNl.out.2]
            omega
           ·by_cases e : j = k2
            ·subst e
             rw [HX2.out] at hq
             cases hq
             obtain ⟨t,ht,rfl⟩:=List.mem_iff_getElem.1 hp
             exact HI.out t _ (by rw [← hlm.out];exact ht) (List.getElem?_eq_getElem ht)
            ·exact HG2.out j q (by omega) hq p hp
          case measure=>simp [intOf];omega
      ·obtain rfl : k2 = np:=by omega
       go_wp2_with fail
       go_roundw
       case rel=>
        refine ⟨k + 1,S2,by omega,by go_num,rfl,by omega,?_,fun j q hj hq=>?_,HC.out.trans (HCB.out.trans HC2.out)⟩
        ·show sumS ss (k + 1) = _
         rw [sumS_succ HR.out,← HS2.out,List.take_of_length_le (l:=s.paths) (by rw [HX.out.2.2];exact Nat.le_refl _)]
        ·by_cases e : j = k
         ·subst e
          rw [HR.out] at hq
          cases hq
          rw [okS,HX.out.1,HX.out.2.1,HX.out.2.2,decide_eq_true h1.out,decide_eq_true h15]
          simp only [Bool.true_and]
          refine List.all_eq_true.2 fun x hx=>List.all_eq_true.2 fun p hp=>?_
          simpa using all_to HX.out.2.2 HG2.out x hx p hp
         ·exact HG.out j q (by omega) hq
       case measure=>simp [intOf];omega
    ·have hE : Hid (smallS ss = false):=smallS_bad HR.out (by rw [okS,HX.out.2.2,decide_eq_false h15];simp)
     have hd1 : decide ((100 : Int) < (nm.length : Int) + (pa.length : Int)) = false:=by simp;omega
     go_wp2_with fail
     go_ret
     exact ⟨ret_bool (by rw [← HY.out,hE.out]),HC.out.trans ((Calm.refl _).alloc _)⟩
   ·have hE : Hid (smallS ss = false):=smallS_bad HR.out (by rw [okS,HX.out.1,HX.out.2.1,decide_eq_false h100];simp)
    have hd1 : decide ((100 : Int) < (nm.length : Int) + (pa.length : Int)) = true:=by simp;omega
    go_wp2_with fail
    go_ret
    exact ⟨ret_bool (by rw [← HY.out,hE.out]),HC.out.trans ((Calm.refl _).alloc _)⟩
  ·obtain rfl : k = n:=by omega
   have hE : Hid (smallS ss = (decide (k ≤ 20) && decide (S ≤ 150))):=by
    show smallS ss = _
    have h1 : ss.all okS = true:=List.all_eq_true.2 (all_to HN.out HG.out)
    rw [smallS,h1,HN.out,HS.out]
    rfl
   by_cases h20 : k ≤ 20
   ·by_cases h150 : S ≤ 150
    ·go_wp2_with fail
     go_ret
     exact ⟨ret_bool (by rw [← HY.out,hE.out];simp [h20,h150];omega),HC.out⟩
    ·go_wp2_with fail
     go_ret
     exact ⟨ret_bool (by rw [← HY.out,hE.out];simp [h20,h150];omega),HC.out⟩
   ·go_wp2_with fail
    go_ret
    exact ⟨ret_bool (by rw [← HY.out,hE.out];simp [h20]),HC.out⟩
end Go.Proofs.YtdcdabbepnahnaaGreatDoor
set_option linter.unusedVariables false
set_option linter.unusedSimpArgs false
namespace Go.Proofs.YtdcdabbepnahnaaGreatDoor
open Go Go.RowKit Sy

def exS : List Strm:=[⟨[109,97,105,110],[],[allLine]⟩]
theorem exS_loc : locE exS [109,97,105,110] [47,47,118,105,101,119,47,97] = (1,[47,47,109,97,105,110,47,97],0):=by decide +kernel
theorem exS_small : SmallSS exS:=fun s hs x hx=>by
 rw [exS,List.mem_singleton] at hs
 subst hs
 simp only [List.mem_singleton] at hx
 subst hx
 exact ⟨by decide,by decide,by decide,by decide⟩
def exSW (w : World) : World:=
 ((w.alloc (Obj.cells #[Value.string ⟨#[118,105,101,119]⟩] 9)).alloc
  (Obj.cells #[Value.int .i64 1,Value.slice (some { block:=w.heap.size,off:=0 }) 1 1,Value.bool true,Value.slice none 0 0,Value.bool false] 53)).alloc
  (Obj.cells #[Value.string ⟨#[109,97,105,110]⟩,Value.string ⟨#[]⟩,Value.slice (some { block:=w.heap.size + 1,off:=0 }) 1 1] 49)
theorem exSW_calm (w : World) : Calm w (exSW w):=(((Calm.refl w).alloc _).alloc _).alloc _
theorem exSW_size (w : World) : (exSW w).heap.size = w.heap.size + 3:=by simp [exSW]
theorem news_at {v w' : World} {cs : Array Value} {t : TypeId} {n k : Nat} {x : Value} (hc : Calm (v.alloc (.cells cs t)) w') (hs : v.heap.size = n) (h : cs[k]? = some x) : w'.cell? ⟨n,k,none⟩ = some x:=by
 subst hs
 refine hc.at_ ?_ (by simp)
 rw [cell_of_row _ v.heap.size k _ _ _ (heap_alloc_new v _)]
 exact h
theorem exSW_strms (w : World) : StrmsU (exSW w) (some ⟨w.heap.size + 1 + 1,0,none⟩) exS:=by
 refine ⟨by decide,fun _=>⟨_,0,rfl,by rw [exSW_size];omega,fun k s hs=>?_⟩⟩
 match k,hs with
 |0,hs=>
  cases hs
  refine ⟨some ⟨w.heap.size + 1,0,none⟩,1,⟨?_,?_,?_⟩,⟨by decide,by decide,⟨by decide,fun _=>⟨_,0,rfl,by rw [exSW_size];omega,fun k x hx=>?_⟩⟩,Nat.le_refl 1,by show 1 ≤ 9223372036854775807;omega⟩⟩
  ·exact news_at (v:=(w.alloc _).alloc _) (Calm.refl _) (by simp) rfl
  ·exact news_at (v:=(w.alloc _).alloc _) (Calm.refl _) (by simp) rfl
  ·exact news_at (v:=(w.alloc _).alloc _) (Calm.refl _) (by simp) rfl
  ·match k,hx with
   |0,hx=>
    cases hx
    refine ⟨⟨some ⟨w.heap.size,0,none⟩,1,none,0⟩,⟨?_,?_,?_,?_,?_⟩,⟨⟨by decide,by decide,fun _=>⟨_,0,rfl,by rw [exSW_size];omega,fun k l hl=>?_⟩⟩,⟨by decide,by decide,fun h=>absurd h (by decide)⟩,Nat.le_refl 1,Nat.le_refl 0,(by show 1 ≤ 9223372036854775807;omega),(by show 0 ≤ 9223372036854775807;omega)⟩⟩
    ·exact news_at (v:=w.alloc _) ((Calm.refl _).alloc _) (by simp) rfl
    ·exact news_at (v:=w.alloc _) ((Calm.refl _).alloc _) (by simp) rfl
    ·exact news_at (v:=w.alloc _) ((Calm.refl _).alloc _) (by simp) rfl
    ·exact news_at (v:=w.alloc _) ((Calm.refl _).alloc _) (by simp) rfl
    ·exact news_at (v:=w.alloc _) ((Calm.refl _).alloc _) (by simp) rfl
    ·rw [Nat.zero_add]
     refine news_at (v:=w) (((Calm.refl _).alloc _).alloc _) rfl ?_
     match k,hl with
     |0,hl=>cases hl;rfl
theorem exS_c (w : World) (hM : MaxL w) : Calls Tryz.prog 13 #[.slice (some ⟨w.heap.size + 1 + 1,0,none⟩) 1 1,.string ⟨#[109,97,105,110]⟩,.string ⟨#[47,47,118,105,101,119,47,97]⟩] (exSW w) fun e w'=>e = .returned (.tuple #[.int .i64 1,.string ⟨#[47,47,109,97,105,110,47,97]⟩,.int .i64 0]) ∧ Calm (exSW w) w':=by
 have:=locate_c exS [109,97,105,110] [47,47,118,105,101,119,47,97] (some ⟨w.heap.size + 1 + 1,0,none⟩) 1 1 (exSW w) (exSW_strms w) rfl (by decide) (by decide) exS_small (hM.calm (exSW_calm w))
 rw [exS_loc] at this
 exact this

set_option maxRecDepth 100000 in
set_option maxHeartbeats 4000000 in
theorem awakeS_c (w : World) (ht : MaxL w) : Calls Tryz.prog 8 #[] w fun e w'=>e = .returned (.bool true) ∧ Calm w w':=by
 have HT:=Lib.hid ht
 clear ht
 go_enter Tryz.func8,Tryz.ntmps8
 go_wp2_with fail
 refine ((exS_c w HT.out).mono ?_)
 rintro e w2 ⟨rfl,hc2⟩
 go_wp2_with fail
 go_ret
 exact ⟨rfl,(exSW_calm w).trans hc2⟩
end Go.Proofs.YtdcdabbepnahnaaGreatDoor
set_option linter.unusedVariables false
set_option linter.unusedSimpArgs false
namespace Go.Proofs.YtdcdabbepnahnaaGreatDoor.Sy

theorem path_two {p : Pat} (hp : patErr p = 0) {l : List Str} (hm : matchL p l = true) : 2 ≤ l.length:=by
 obtain ⟨h0,h1,_⟩:=patErr_form hp
 have hr:=(matchL_true.1 hm).1
 unfold reaches at hr
 rcases hre : p.rest with _ | _
 ·rw [hre] at hr
  simp only [Bool.false_eq_true,if_false] at hr
  have:=beq_iff_eq.1 hr
  have:=h1 hre
  omega
 ·rw [hre] at hr
  simp only [if_true] at hr
  have:=of_decide_eq_true hr
  omega
theorem fwd_ent {x : Ent} (hr : ruleErr x.rule = 0) {l : List Str} (hc : l.all comp = true) (hm : matchL x.left l = true) : fwd x.rule (pathStr l) = some (pathStr (trL x.left x.right l)):=by
 have tx : Twin x.left x.right:=ruleErr_twin.1 hr
 unfold fwd
 rw [if_pos hr,pathOf_str (path_two tx.lp hm) hc]
 simp only
 rw [if_pos (show matchL x.rule.left l = true from hm)]
 rfl
end Go.Proofs.YtdcdabbepnahnaaGreatDoor.Sy
set_option linter.unusedVariables false
set_option linter.unusedSimpArgs false
namespace Go.Proofs.YtdcdabbepnahnaaGreatDoor.Sy

theorem two_have {ps : List Pc} {i j : Nat} {p q : Pc} (hi : ps[i]? = some p) (hj : ps[j]? = some q) (hij : i < j) {l : List Str} (h1 : hasG p.region l = true) (h2 : hasG q.region l = true) : 2 ≤ cntP ps l:=by
 have e : cntP ps l = cntP (ps.take j) l + cntP (ps.drop j) l:=by rw [← cntP_app,List.take_append_drop]
 have hp : p ∈ ps.take j:=List.mem_of_getElem? (i:=i) (by rw [List.getElem?_take,if_pos hij];exact hi)
 have hq : q ∈ ps.drop j:=List.mem_of_getElem? (i:=0) (by rw [List.getElem?_drop];exact hj)
 have:=cntP_pos hp h1
 have:=cntP_pos hq h2
 omega
theorem pcs_apart {ss : List Strm} (h : Good ss) {i : Nat} (hi : i < ss.length) {ps : List Pc} (hps : pcs ss i = some ps) {a b : Nat} {p q : Pc} (ha : ps[a]? = some p) (hb : ps[b]? = some q) (hab : a < b) {l : List Str} (hc : l.all comp = true) (h1 : hasG p.region l = true) (h2 : hasG q.region l = true) : False:=by
 have hm:=pcs_mean h i hi ps hps
 have h2l:=path_two (gErr_zero (hm.ok p (List.mem_of_getElem? ha)).g).1 (hasG_left' h1)
 have hp:=pathOf_str h2l hc
 have h3:=two_have ha hb hab h1 h2
 cases hu : underV (pathStr l) with
 |false=>
  rw [hm.far _ l hp hu] at h3
  omega
 |true=>
  have:=hm.cnt _ l hp hu
  split at this <;> omega
theorem ent_src {ss : List Strm} (h : Good ss) {i : Nat} (hi : i < ss.length) {ps : List Pc} (hps : pcs ss i = some ps) {p : Pc} (hp : p ∈ ps) {e : Ent} (he : entOfP p = some e) {l : List Str} (hc : l.all comp = true) (hh : hasG e.reg l = true) :
  ∃ l' : List Str,l'.all comp = true ∧ 2 ≤ l'.length ∧ hasG p.region l' = true ∧ underV (pathStr l') = true ∧ (see ss i (pathStr l')).1 ≠ 0 ∧ (see ss i (pathStr l')).2 = pathStr l:=by
 have hm:=pcs_mean h i hi ps hps
 have ok:=hm.ok p hp
 have tw : Twin p.line.left p.line.right:=ruleErr_twin.1 ok.r
 rw [(entOfP_has ok he).2.2.1 l hc] at hh
 unfold hasR' at hh
 rw [Bool.and_eq_true] at hh
 obtain ⟨h1,h2⟩:=hh
 rw [pcEnt_reg ok] at h2
 have h1' : matchL p.line.right l = true:=h1
 obtain ⟨t1,t2,t3,t4⟩:=tr_twin tw.turn hc h1'
 have h2' : hasG p.region (trL p.line.right p.line.left l) = true:=h2
 have hpo:=pathOf_str t3 t2
 have hf : fwd p.line (pathStr (trL p.line.right p.line.left l)) = some (pathStr l):=by
  have:=fwd_ent (x:=pcEnt p) (by rw [pcEnt_rule ok];exact ok.r) t2 t1
  rw [pcEnt_rule ok] at this
  rw [this]
  show some (pathStr (trL p.line.left p.line.right _)) = _
  rw [t4]
 have hu : underV (pathStr (trL p.line.right p.line.left l)) = true:=by
  cases hu : underV (pathStr (trL p.line.right p.line.left l)) with
  |true=>rfl
  |false=>
   have h3:=cntP_pos hp h2'
   rw [hm.far _ _ hpo hu] at h3
   omega
 obtain ⟨e1,e2⟩:=hm.each _ _ hpo hu p hp h2'
 rw [hf] at e2
 refine ⟨_,t2,t3,h2',hu,?_,(Option.some.inj e2).symm⟩
 have e1' : p.kind = (see ss i (pathStr (trL p.line.right p.line.left l))).1:=e1
 rw [← e1']
 rcases ok.k with hk | hk | hk <;> rw [hk] <;> decide
theorem left_apart {ss : List Strm} (h : Good ss) {i : Nat} (hi : i < ss.length) {ps : List Pc} (hps : pcs ss i = some ps) {a b : Nat} {p q : Pc} (ha : ps[a]? = some p) (hb : ps[b]? = some q) (hab : a < b) {x y : Ent} (hx : entOfP p = some x) (hy : entOfP q = some y) {l : List Str} (hc : l.all comp = true) (h1 : hasG x.reg l = true) (h2 : hasG y.reg l = true) : False:=by
 obtain ⟨u,u1,u2,u3,u4,u5,u6⟩:=ent_src h hi hps (List.mem_of_getElem? ha) hx hc h1
 obtain ⟨v,v1,v2,v3,v4,v5,v6⟩:=ent_src h hi hps (List.mem_of_getElem? hb) hy hc h2
 have e:=sources h hi u4 v4 u5 v5 (by rw [u6,v6])
 have e2:=congrArg pathOf e
 rw [pathOf_str u2 u1,pathOf_str v2 v1] at e2
 obtain rfl:=Option.some.inj e2
 exact pcs_apart h hi hps ha hb hab u1 u3 v3
theorem betP_at {par : Str} : ∀ {ps : List Pc} {es : List Ent},betP par ps = some es → ∃ js : List Nat,js.length = es.length ∧ js.Pairwise (· < ·) ∧ ∀ (k : Nat) j x,js[k]? = some j → es[k]? = some x → ∃ p e,ps[j]? = some p ∧ p.kind = 1 ∧ entOfP p = some e ∧ x = ⟨e.left,storedP p.region.b par,e.hs⟩
 |[],es,h=>by
  obtain rfl:=Option.some.inj h
  exact ⟨[],rfl,List.Pairwise.nil,fun k j x hk=>by simp at hk⟩
 |p :: r,es,h=>by
  unfold betP at h
  rcases he : entOfP p with _ | e
  ·rw [he] at h
   cases h
  ·rw [he] at h
   obtain ⟨es',h1,h2⟩:=Option.map_eq_some_iff.1 h
   obtain ⟨js,a1,a2,a3⟩:=betP_at h1
   have hp2 : (js.map (· + 1)).Pairwise (· < ·):=by
    rw [List.pairwise_map]
    exact a2.imp fun {a b} hab=>by omega
   have hat : ∀ (k : Nat) j x,(js.map (· + 1))[k]? = some j → es'[k]? = some x → ∃ q e,(p :: r)[j]? = some q ∧ q.kind = 1 ∧ entOfP q = some e ∧ x = ⟨e.left,storedP q.region.b par,e.hs⟩:=fun k j x hk hx=>by
    rw [List.getElem?_map] at hk
    obtain ⟨j',hj',rfl⟩:=Option.map_eq_some_iff.1 hk
    obtain ⟨q,e',b1,b2⟩:=a3 k j' x hj' hx
    exact ⟨q,e',by simpa using b1,b2⟩
   by_cases hk : p.kind = 1
   ·rw [if_pos hk] at h2
    subst h2
    refine ⟨0 :: js.map (· + 1),by simp [a1],List.pairwise_cons.2 ⟨fun j hj=>?_,hp2⟩,fun k j x hj hx=>?_⟩
    ·obtain ⟨j',_,rfl⟩:=List.mem_map.1 hj
     omega
    ·cases k with
     |zero=>
      obtain rfl : 0 = j:=by simpa using hj
      obtain rfl : (⟨e.left,storedP p.region.b par,e.hs⟩ : Ent) = x:=by simpa using hx
      exact ⟨p,e,rfl,hk,he,rfl⟩
     |succ k=>exact hat k j x (by simpa using hj) (by simpa using hx)
   ·rw [if_neg hk] at h2
    subst h2
    exact ⟨js.map (· + 1),by simp [a1],hp2,hat⟩
end Go.Proofs.YtdcdabbepnahnaaGreatDoor.Sy
set_option linter.unusedVariables false
set_option linter.unusedSimpArgs false
namespace Go.Proofs.YtdcdabbepnahnaaGreatDoor
open Go Go.RowKit Sy

end Go.Proofs.YtdcdabbepnahnaaGreatDoor
set_option linter.unusedVariables false
set_option linter.unusedSimpArgs false
namespace Go.Proofs.YtdcdabbepnahnaaGreatDoor
open Go Go.RowKit Sy

end Go.Proofs.YtdcdabbepnahnaaGreatDoor
set_option linter.unusedVariables false
set_option linter.unusedSimpArgs false
namespace Go.Proofs.YtdcdabbepnahnaaGreatDoor
open Go Go.RowKit Sy

theorem hasS_path {x : Ent} (hg : gErr x.reg = 0) {s : Str} {l : List Str} (hp : pathOf s = some l) : hasS x.left x.hs s = hasG x.reg l:=by
 rw [hasS_hasR (b:=x.left) (hs:=x.hs) (gErr_zero hg).1 (gErr_zero hg).2.1]
 unfold hasR
 rw [hp]
 rfl
theorem hasS_nopath {b : Pat} {hs : List Pat} {s : Str} (hp : pathOf s = none) : hasS b hs s = false:=by
 unfold hasS
 rw [matchS,hp]
 rfl
theorem hasG_match {x : Ent} {l : List Str} (h : hasG x.reg l = true) : matchL x.left l = true:=by
 unfold hasG hasL at h
 rw [Bool.and_eq_true] at h
 exact h.1
theorem fwd_path {r : Rule} (hr : ruleErr r = 0) {s : Str} {l : List Str} (hp : pathOf s = some l) : fwd r s = if matchL r.left l then some (pathStr (trL r.left r.right l)) else none:=by
 unfold fwd
 rw [if_pos hr,hp]
theorem find_congr {α : Type} {p q : α → Bool} : ∀ {l : List α},(∀ a ∈ l,p a = q a) → l.find? p = l.find? q
 |[],_=>rfl
 |a :: l,h=>by
  rw [List.find?_cons,List.find?_cons,h a List.mem_cons_self,find_congr fun b hb=>h b (List.mem_cons_of_mem _ hb)]
theorem bySE_fwdM {es : List Ent} (h : Mapping es) (s : Str) : bySE es s = fwdM es s:=by
 unfold bySE fwdM
 rcases hp : pathOf s with _ | l
 ·have : es.find? (fun x=>hasS x.left x.hs s) = none:=by
   rw [List.find?_eq_none]
   intro x hx
   rw [hasS_nopath hp]
   simp
  rw [this]
 ·have e : es.find? (fun x=>hasS x.left x.hs s) = es.find? fun x=>hasG x.reg l:=find_congr fun x hx=>hasS_path (h.good x hx).2 hp
  rw [e]
  rcases hf : es.find? (fun x=>hasG x.reg l) with _ | x
  ·simp only [hf]
   rfl
  ·have hx:=List.mem_of_find?_eq_some hf
   have hh:=List.find?_some (p:=fun x : Ent=>hasG x.reg l) hf
   simp only [hf,Option.map_some]
   rw [fwd_path (h.good x hx).1 hp,if_pos (show matchL x.rule.left l = true from hasG_match hh)]
   rfl
def mfS (es : List Ent) (s : Str) : Option Str:=if (mapE es).2 = 0 then fwdM es s else none
def optV (o : Option Str) : Value:=.tuple #[.string (bs (o.getD [])),.bool o.isSome]
theorem mfV_eq (es : List Ent) (s : Str) : mfV es s = optV (mfS es s):=by
 unfold mfV mfS
 by_cases h : (mapE es).2 = 0
 ·rw [if_pos h,if_pos h]
  unfold byV optV
  rw [bySE_fwdM (mapE_zero h).1]
 ·rw [if_neg h,if_neg h]
  rfl
end Go.Proofs.YtdcdabbepnahnaaGreatDoor
set_option linter.unusedVariables false
set_option linter.unusedSimpArgs false
namespace Go.Proofs.YtdcdabbepnahnaaGreatDoor
open Go Go.RowKit Sy

theorem comE_ok {a b : List Ent} (h : (comE a b).2 = 0) : (mapE a).2 = 0 ∧ (mapE b).2 = 0 ∧ comL (pairsL a b) = some (comE a b).1:=by
 unfold comE at h ⊢
 by_cases h0 : (mapE a).2 ≠ 0
 ·rw [if_pos h0] at h
  exact absurd h h0
 ·rw [if_neg h0] at h ⊢
  by_cases h1 : (mapE b).2 ≠ 0
  ·rw [if_pos h1] at h
   exact absurd h h1
  ·rw [if_neg h1] at h ⊢
   rcases hr : comL (pairsL a b) with _ | l
   ·rw [hr] at h
    cases h
   ·rw [hr] at h
    simp only at h ⊢
    by_cases h2 : 32 < l.length
    ·rw [if_pos h2] at h
     cases h
    ·rw [if_neg h2]
     exact ⟨by simpa using h0,by simpa using h1,rfl⟩
theorem comE_fwd {a b : List Ent} (h : (comE a b).2 = 0) (hz : (mapE (comE a b).1).2 = 0) (s : Str) : mfS (comE a b).1 s = (mfS a s).bind (mfS b):=by
 obtain ⟨h1,h2,h3⟩:=comE_ok h
 have e : ∀ t,mfS b t = fwdM b t:=fun t=>by unfold mfS;rw [if_pos h2]
 have e2 : mfS b = fwdM b:=funext e
 rw [e2]
 unfold mfS
 rw [if_pos hz,if_pos h1]
 exact com_mean (mapE_zero h1).1 (mapE_zero h2).1 h3 (mapE_zero hz).1 s
end Go.Proofs.YtdcdabbepnahnaaGreatDoor
set_option linter.unusedVariables false
set_option linter.unusedSimpArgs false
namespace Go.Proofs.YtdcdabbepnahnaaGreatDoor.Sy
theorem bet_only {ss : List Strm} (h : Good ss) {i : Nat} (hi : i < ss.length) {es : List Ent} (hb : betI ss i = some es) {s t : Str} (hf : fwdM es s = some t) : ∃ r,s = pathStr ((strm ss i).name :: r) ∧ underV (pathStr (viewN :: r)) = true ∧ (see ss i (pathStr (viewN :: r))).1 = 1 ∧ (see ss i (pathStr (viewN :: r))).2 = s:=by
 rcases hd : pathOf s with _ | l2
 ·unfold fwdM at hf
  rw [hd] at hf
  cases hf
 ·obtain ⟨g1,g2,g3⟩:=pathOf_some hd
  have hb0:=hb
  unfold betI at hb
  rcases hps : pcs ss i with _ | ps
  ·rw [hps] at hb
   cases hb
  ·rw [hps] at hb
   simp only at hb
   have hm:=pcs_mean h i hi ps hps
   have hn:=(ownErr_zero (h.own i hi)).1
   unfold fwdM at hf
   rw [hd] at hf
   simp only at hf
   have hfd:=betP_find (P:=fun x=>hasG x.reg l2) (Q:=fun p=>(l2 == (strm ss i).name :: l2.tail) && hasG p.region (viewN :: l2.tail)) hb (fun q hq e he hk=>by
    have ho:=hm.own q hq (by rw [hk];decide)
    have hh:=own_has (hm.ok q hq) hn ho he g2
    have e3 : (⟨e.left,storedP q.region.b (strm ss i).parent,e.hs⟩ : Ent).reg = e.reg:=rfl
    rw [e3,Bool.eq_iff_iff,hh,Bool.and_eq_true,beq_iff_eq]
    constructor
    ·rintro ⟨r,rfl,h5⟩
     exact ⟨rfl,h5⟩
    ·rintro ⟨h5,h6⟩
     exact ⟨_,h5,h6⟩)
   rcases hq : ps.find? (fun p=>p.kind == 1 && ((l2 == (strm ss i).name :: l2.tail) && hasG p.region (viewN :: l2.tail))) with _ | q
   ·rw [hq] at hfd
    have hfd' : es.find? (fun x=>hasG x.reg l2) = none:=hfd
    rw [hfd'] at hf
    cases hf
   ·have hqm:=List.mem_of_find?_eq_some hq
    have hqp:=List.find?_some hq
    simp only [Bool.and_eq_true,beq_iff_eq] at hqp
    obtain ⟨hk,hl2,hh⟩:=hqp
    obtain ⟨r,hr9⟩ : ∃ r,l2.tail = r:=⟨_,rfl⟩
    rw [hr9] at hl2 hh
    subst hl2
    rw [List.all_cons,Bool.and_eq_true] at g2
    have hr0 : r ≠ []:=fun e=>by rw [e] at g1;simp at g1
    have hcl : (viewN :: r).all comp = true:=by rw [List.all_cons,g2.2];rfl
    have hlen : 2 ≤ (viewN :: r).length:=by
     have:=List.length_pos_iff.2 hr0
     simp
     omega
    have hpc:=pathOf_str hlen hcl
    have hu : underV (pathStr (viewN :: r)) = true:=by
     unfold underV
     rw [hpc]
     rfl
    have hk1:=(hm.each _ _ hpc hu q hqm hh).1
    rw [hk] at hk1
    refine ⟨r,g3,hu,hk1.symm,?_⟩
    rcases see_src h hi (c:=pathStr (viewN :: r)) (by rw [← hk1];decide) with ⟨_,h1⟩ | ⟨h1,_⟩
    ·rw [h1]
     obtain ⟨r',_,_,r3,r4⟩:=under_own hu (strm ss i).name
     rw [hpc] at r3
     obtain rfl : r = r':=by simpa using r3
     rw [r4,g3]
    ·rw [← hk1] at h1
     cases h1
theorem bet_unshared {ss : List Strm} (h : Good ss) {i : Nat} (hi : i < ss.length) {es : List Ent} (hb : betI ss i = some es) {c : Str} (hs : (locI ss i c).1 ≠ 1) : fwdM es (locI ss i c).2 = none:=by
 rcases hf : fwdM es (locI ss i c).2 with _ | t
 ·rfl
 ·exfalso
  obtain ⟨r,h1,h2,h3,h4⟩:=bet_only h hi hb hf
  unfold locI at hs h1 h4
  by_cases hu : underV c = true
  ·rw [if_pos hu] at hs h1 h4
   by_cases h0 : (see ss i c).1 = 0
   ·rw [see_zero h hi c h0] at h1
    cases h1
   ·have:=sources h hi h2 hu (by rw [h3];decide) h0 h4
    rw [this] at h3
    exact hs h3
  ·rw [if_neg hu] at h1
   cases h1
theorem chain_share {ss : List Strm} (h : Good ss) {i p q : Nat} (hi : i < ss.length) (hp : parentI ss i = some p) (hq : parentI ss p = some q) {x y : List Ent} (hx : betI ss i = some x) (hy : betI ss p = some y) {c : Str} (hs : (locI ss i c).1 = 1) : (fwdM x (locI ss i c).2).bind (fwdM y) = some (locI ss q c).2:=by
 unfold locI at hs ⊢
 by_cases hu : underV c = true
 ·rw [if_pos hu] at hs ⊢
  rw [if_pos hu]
  obtain ⟨h1,h2⟩:=bet_share h hi hp hx hu hs
  obtain ⟨_,h4⟩:=bet_share h (parentI_lt hp) hq hy hu h1
  rw [h2,Option.bind_some,h4]
 ·rw [if_neg hu] at hs
  cases hs
end Go.Proofs.YtdcdabbepnahnaaGreatDoor.Sy
set_option linter.unusedVariables false
set_option linter.unusedSimpArgs false
namespace Go.Proofs.YtdcdabbepnahnaaGreatDoor
open Go Go.RowKit Sy

def ancsOf (ss : List Strm) (i : Nat) : List Str:=(above ss i).map fun p=>(strm ss p).name
def AncEnd (ss : List Strm) (nm : Str) (e : Ending) (w' : World) : Prop:=
 (∃ x,x ≠ 0 ∧ readyE ss nm = x ∧ e = .returned (.tuple #[.slice none 0 0,.int .i64 x])) ∨
 (∃ i A c,readyE ss nm = 0 ∧ Sy.Good ss ∧ findI ss nm = some i ∧ e = .returned (.tuple #[.slice A (ancsOf ss i).length c,.int .i64 0]) ∧ StrsU w' A (ancsOf ss i) ∧ (ancsOf ss i).length ≤ c)
theorem map_take_snoc {α β : Type} (f : α → β) {l : List α} {k : Nat} {x : α} (h : l[k]? = some x) : (l.take (k + 1)).map f = (l.take k).map f ++ [f x]:=by
 obtain ⟨hlt,rfl⟩:=List.getElem?_eq_some_iff.1 h
 rw [List.take_succ_eq_append_getElem hlt,List.map_append]
 rfl

set_option maxHeartbeats 2000000 in
theorem anc_c (ss : List Strm) (nm : Str) (A : Option Addr) (n c : Nat) (w : World) (hs : StrmsU w A ss) (hn : ss.length = n) (hnm : nm.length ≤ 1048576) :
  Calls Tryz.prog 18 #[.slice A n c,.string (bs nm)] w fun e w'=>AncEnd ss nm e w' ∧ Calm w w':=by
 have hk:=find_c ss nm A n c w hs hn hnm
 have HN:=Lib.hid hn
 clear hs hn
 go_enter Tryz.func18,Tryz.ntmps18
 go_wp2_with fail
 refine hk.mono ?_
 rintro e w1 ⟨hend,hc1⟩
 rcases hend with ⟨x,hx0,hr,rfl⟩ | ⟨F,i,hr,hg,hfi,rfl,hf⟩
 ·have hxb : (x != 0) = true:=by simpa using hx0
  have HR:=Lib.hid hr
  have H0:=Lib.hid hx0
  clear hx0 hr hk
  go_wp2_with fail
  go_ret2
  exact ⟨.inl ⟨x,H0.out,HR.out,rfl⟩,hc1⟩
 ·have hil : i < n:=by rw [← HN.out];exact findI_lt hfi
  have hka:=above_c ss F A n c i w1 hf hil
  obtain ⟨l0,hl⟩ : ∃ l,above ss i = l:=⟨_,rfl⟩
  have hel : Hid (∀ p ∈ l0,p < n):=fun p hp=>by
   rw [← HN.out]
   exact above_lt (i:=i) (by rw [hl];exact hp)
  obtain ⟨m,hm⟩ : ∃ m,l0.length = m:=⟨_,rfl⟩
  have hm16 : m ≤ 5:=by
   rw [← hm,← hl]
   exact hg.short (by rw [HN.out];exact hil)
  unfold AboveEnd at hka
  rw [hl,hm] at hka
  have HE : Hid (∀ (W : World) (A2 : Option Addr) (c2 : Nat),StrsU W A2 (l0.map fun p=>(strm ss p).name) → m ≤ c2 → AncEnd ss nm (.returned (.tuple #[.slice A2 m c2,.int .i64 0])) W):=fun W A2 c2 hU hroom=>by
   refine .inr ⟨i,A2,c2,hr,hg,hfi,?_,?_,by unfold ancsOf;rw [hl,List.length_map,hm];exact hroom⟩
   ·unfold ancsOf
    rw [hl,List.length_map,hm]
   ·unfold ancsOf
    rw [hl]
    exact hU
  have HNm : Hid (∀ p ∈ l0,(strm ss p).name.length ≤ 24):=fun p hp=>(ownErr_zero (hg.own p (by rw [HN.out];exact hel.out p hp))).2.1
  have HM:=Lib.hid hm
  have HF:=Lib.hid hf
  have HC1:=Lib.hid hc1
  clear hr hfi hf hg hk hl hm hc1
  go_wp2_with (go_at_call 42;refine hka.mono ?_;rintro e w2 ⟨⟨VA,vc,rfl,hia⟩,hc2⟩)
  have HI:=Lib.hid hia
  have HC2:=Lib.hid hc2
  have HF2:=Lib.hid (HF.out.calm hc2)
  clear hia hc2 hka
  go_loopw [9,26] (fun v q wr=>∃ k : Nat,k ≤ m ∧ q = .int .i64 k ∧ Hid (OwnS w2 wr v ((l0.take k).map fun p=>(strm ss p).name))) (fun _ q _=>m - (intOf q).toNat)
  case atStart=>exact ⟨0,Nat.zero_le _,rfl,OwnS.nil (Calm.refl _)⟩
  case round=>
   obtain ⟨k,hk,rfl,HV⟩:=hrel
   by_cases hlt : k < m
   ·obtain ⟨p,hp⟩ : ∃ x,l0[k]? = some x:=⟨_,List.getElem?_eq_getElem (by rw [HM.out];exact hlt)⟩
    obtain ⟨g,rfl,hg,hat⟩:=HI.out.calm HV.out.calm (by rw [HM.out];omega)
    have c0:=hat k p hp
    have hpn : p < n:=hel.out p (List.mem_of_getElem? hp)
    have HP:=Lib.hid hp
    have f0:=Calm.at_ HV.out.calm HF2.out.c0 HF2.out.lt
    obtain ⟨b,o,s,PA,pc,rfl,hb,hr,hsat,hsu⟩:=HF2.out.strms.get (k:=p) (by rw [HN.out];exact hpn)
    have d0:=Calm.at_ HV.out.calm hsat.c0 hb
    obtain ⟨sn,hsn⟩ : ∃ sn,s.name = sn:=⟨_,rfl⟩
    rw [hsn] at d0
    have HX : Hid ((strm ss p).name = sn):=by show _ = _;rw [strm_at hr,hsn]
    have hlen : Hid (((l0.take k).map fun p=>(strm ss p).name).length ≤ 1000000):=by
     show _ ≤ _
     rw [List.length_map,List.length_take]
     omega
    clear hat hp hr hsat hsu hsn
    go_wp2_with (at_builtin;refine wpList_append_str rfl (.tmp 30) (.tmp 39) rfl w2 _ ((l0.take k).map fun p=>(strm ss p).name) rfl (HV.out.to ((Calm.refl wr).alloc (.cells #[.string (bs sn)] 9))) wr.heap.size 0 1 rfl sn (new_str _ rfl) hlen.out ?_;intro v5 w5 hown5 hgrow5)
    go_roundw
    case rel=>
     refine ⟨k + 1,by omega,by go_num,?_⟩
     show OwnS _ _ _ _
     rw [map_take_snoc _ HP.out,HX.out]
     exact hown5
    case measure=>simp [intOf];omega
   ·obtain rfl : k = m:=by omega
    have h1:=HV.out
    rw [List.take_of_length_le (by rw [HM.out];exact Nat.le_refl _)] at h1
    obtain ⟨A2,c2,e0,h2⟩:=own_newS h1.own (by rw [List.length_map,HM.out];omega) (fun l hl=>by
     obtain ⟨p,hp,rfl⟩:=List.mem_map.1 hl
     have:=HNm.out p hp
     omega)
    rw [List.length_map,HM.out] at e0
    have H2:=Lib.hid (HE.out wr A2 c2 h2.u (by have:=h2.room;rw [List.length_map,HM.out] at this;exact this))
    clear h1 h2
    subst e0
    have HCv:=Lib.hid HV.out.calm
    clear HV
    go_wp2
    go_ret2
    exact ⟨H2.out,HC1.out.trans (HC2.out.trans HCv.out)⟩
end Go.Proofs.YtdcdabbepnahnaaGreatDoor
set_option linter.unusedVariables false
set_option linter.unusedSimpArgs false
namespace Go.Proofs.YtdcdabbepnahnaaGreatDoor
open Go Go.RowKit Sy

theorem locE_ok {ss : List Strm} {nm : Str} (h : readyE ss nm = 0) : ∃ i,Sy.Good ss ∧ findI ss nm = some i ∧ i < ss.length ∧ ∀ s,locE ss nm s = ((locI ss i s).1,(locI ss i s).2,0):=by
 have h0 : (strErr ss).2 = 0:=Classical.byContradiction fun hne=>by
  rw [ready_bad hne] at h
  exact hne h
 rcases hf : findI ss nm with _ | i
 ·rw [ready_none h0 hf] at h
  cases h
 ·refine ⟨i,good_iff.1 h0,rfl,findI_lt hf,fun s=>?_⟩
  rw [locE,if_pos h,hf]
  rfl
theorem locI_under {ss : List Strm} {i : Nat} {s : Str} (h : (locI ss i s).1 ≠ 0) : underV s = true ∧ locI ss i s = see ss i s:=by
 unfold locI at h ⊢
 by_cases hu : underV s = true
 ·rw [if_pos hu]
  exact ⟨hu,rfl⟩
 ·rw [if_neg hu] at h
  exact absurd rfl h
end Go.Proofs.YtdcdabbepnahnaaGreatDoor
set_option linter.unusedVariables false
set_option linter.unusedSimpArgs false
namespace Go.Proofs.YtdcdabbepnahnaaGreatDoor
open Go Go.RowKit Sy

theorem smallS_z {ss : List Strm} (h : smallS ss = true) : StrmsZ ss:=fun s hs x hx=>by
 rw [smallS,Bool.and_eq_true,Bool.and_eq_true,decide_eq_true_eq,decide_eq_true_eq] at h
 have h1:=List.all_eq_true.1 h.1.1 s hs
 simp only [okS,Bool.and_eq_true] at h1
 have h6:=List.all_eq_true.1 (List.all_eq_true.1 h1.2 x hx)
 exact ⟨fun p hp=>by have:=h6 p (List.mem_append_left _ hp);simpa using this,fun p hp=>by have:=h6 p (List.mem_append_right _ hp);simpa using this⟩
end Go.Proofs.YtdcdabbepnahnaaGreatDoor
set_option linter.unusedVariables false
set_option linter.unusedSimpArgs false
namespace Go.Proofs.YtdcdabbepnahnaaGreatDoor
open Go Go.RowKit Sy

theorem ready_good {ss : List Strm} (h : Sy.Good ss) {i : Nat} (hi : i < ss.length) : readyE ss (strm ss i).name = 0:=ready_ok (good_iff.2 h) (h.find hi)
theorem locE_good {ss : List Strm} (h : Sy.Good ss) {i : Nat} (hi : i < ss.length) (s : Str) : locE ss (strm ss i).name s = ((locI ss i s).1,(locI ss i s).2,0):=by
 rw [locE,if_pos (ready_good h hi),h.find hi]
 rfl
end Go.Proofs.YtdcdabbepnahnaaGreatDoor
set_option linter.unusedVariables false
set_option linter.unusedSimpArgs false
namespace Go.Proofs.YtdcdabbepnahnaaGreatDoor
open Go Go.RowKit Sy

theorem bet_small {ss : List Strm} (h : Sy.Good ss) (hz : StrmsZ ss) {i : Nat} (hi : i < ss.length) {es : List Ent} (hv : betI ss i = some es) : (∀ e ∈ es,SmallE e) ∧ es.length ≤ 32:=by
 unfold betI at hv
 rcases hps : pcs ss i with _ | ps
 ·rw [hps] at hv
  cases hv
 ·rw [hps] at hv
  simp only at hv
  have hm:=pcs_mean h i hi ps hps
  obtain ⟨js,a1,a2,a3⟩:=betP_at hv
  have hpl:=parent_len h hi
  refine ⟨fun x hx=>?_,?_⟩
  ·obtain ⟨k,hk,ex⟩:=List.mem_iff_getElem.1 hx
   have hk' : k < js.length:=by rw [a1];exact hk
   obtain ⟨q,e,hq,_,he,hxe⟩:=a3 k _ _ (List.getElem?_eq_getElem hk') (List.getElem?_eq_getElem hk)
   rw [ex] at hxe
   have ok:=hm.ok q (List.mem_of_getElem? hq)
   have oz:=pcs_z h hz i hi ps hps q (List.mem_of_getElem? hq)
   have hs:=(entOfP_z ok oz he).mono (L:=250) (by decide)
   rw [hxe]
   refine ⟨hs.lp,hs.ls,?_,fun y hy=>?_,hs.h⟩
   ·show (q.region.b.parts.set 0 _).length ≤ 300
    rw [List.length_set]
    exact pat_few (gErr_zero ok.g).1
   ·have:=stored_let oz.b (n:=(strm ss i).parent) (by omega) y hy
    omega
  ·have h32:=pcs_len h hps
   have hlt : ∀ j ∈ js,j < ps.length:=fun j hj=>by
    obtain ⟨k,hk,ej⟩:=List.mem_iff_getElem.1 hj
    have hk' : k < es.length:=by rw [← a1];exact hk
    obtain ⟨q,e,hq,_⟩:=a3 k j _ (by rw [List.getElem?_eq_getElem hk,ej]) (List.getElem?_eq_getElem hk')
    exact (List.getElem?_eq_some_iff.1 hq).1
   have hsub : js.length ≤ ps.length:=by
    have hnd : js.Nodup:=a2.imp fun {a b} hab=>by omega
    have:=List.Nodup.length_le_of_subset (l₂:=List.range ps.length) hnd (fun j hj=>List.mem_range.2 (hlt j hj))
    simpa using this
   omega
theorem anc_ok {ss : List Strm} {nm : Str} {i : Nat} (hx : readyE ss nm = 0) (hfi : findI ss nm = some i) {e : Ending} {w' : World} (h : AncEnd ss nm e w') : ∃ VA vc,e = .returned (.tuple #[.slice VA (ancsOf ss i).length vc,.int .i64 0]) ∧ StrsU w' VA (ancsOf ss i) ∧ (ancsOf ss i).length ≤ vc:=by
 rcases h with ⟨x,hx0,hr,_⟩ | ⟨i',VA,vc,_,_,hf',he,hu,hr⟩
 ·rw [hx] at hr
  exact absurd hr.symm hx0
 ·rw [hfi] at hf'
  cases hf'
  exact ⟨VA,vc,he,hu,hr⟩
end Go.Proofs.YtdcdabbepnahnaaGreatDoor
