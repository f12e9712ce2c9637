/- Entries in memory; the holes on the way. -/
import Derived.Deep.QuietTactic
import Derived.BigQuiet
import Derived.Test.YtdcdabbepnahnaaGreatDoorZOwn
import Derived.Test.YtdcdabbepnahnaaGreatDoorZView
import Derived.Test.YtdcdabbepnahnaaGreatDoorZCopyP
import Derived.Test.YtdcdabbepnahnaaGreatDoorZCheckG
import Derived.Test.YtdcdabbepnahnaaGreatDoorZMatch
import Derived.Test.YtdcdabbepnahnaaGreatDoorZNarL
import Derived.Test.YtdcdabbepnahnaaGreatDoorZRowG
set_option linter.unusedVariables false
set_option linter.unusedSimpArgs false
namespace Go.Proofs.YtdcdabbepnahnaaGreatDoor
open Go.RowKit Sy
structure Pl where
 AL : Option Addr
 cl : Nat
 AR : Option Addr
 cr : Nat
deriving Inhabited
def Pl.turn (a : Pl) : Pl:=⟨a.AR,a.cr,a.AL,a.cl⟩
def ruleV (a : Pl) (r : Rule) : Value:=.agg #[.bool r.excl,.slice a.AL r.left.parts.length a.cl,.bool r.left.rest,.slice a.AR r.right.parts.length a.cr,.bool r.right.rest]
structure RuleU (w : World) (a : Pl) (r : Rule) : Prop where
 lr : StrsU w a.AL r.left.parts
 rr : StrsU w a.AR r.right.parts
 lroom : r.left.parts.length ≤ a.cl
 rroom : r.right.parts.length ≤ a.cr
 lcap : a.cl ≤ 9223372036854775807
 rcap : a.cr ≤ 9223372036854775807
theorem RuleU.calm {w w' : World} {a : Pl} {r : Rule} (h : RuleU w a r) (hc : Calm w w') : RuleU w' a r:=⟨h.lr.calm hc,h.rr.calm hc,h.lroom,h.rroom,h.lcap,h.rcap⟩
theorem RuleU.turn {w : World} {a : Pl} {r : Rule} (h : RuleU w a r) : RuleU w a.turn r.turn:=⟨h.rr,h.lr,h.rroom,h.lroom,h.rcap,h.lcap⟩
end Go.Proofs.YtdcdabbepnahnaaGreatDoor
set_option linter.unusedVariables false
set_option linter.unusedSimpArgs false
namespace Go.Proofs.YtdcdabbepnahnaaGreatDoor
open Go Go.RowKit Sy
structure RuleN (w : World) (B : Nat) (a : Pl) (r : Rule) : Prop where
 l : NewS w B a.AL a.cl r.left.parts
 r : NewS w B a.AR a.cr r.right.parts
theorem RuleN.u {w : World} {B : Nat} {a : Pl} {r : Rule} (h : RuleN w B a r) : RuleU w a r:=⟨h.l.u,h.r.u,h.l.room,h.r.room,h.l.cap,h.r.cap⟩
theorem RuleN.calm {w w' : World} {B : Nat} {a : Pl} {r : Rule} (h : RuleN w B a r) (hc : Calm w w') : RuleN w' B a r:=⟨h.l.calm hc,h.r.calm hc⟩
theorem RuleN.mono {w : World} {B B' : Nat} {a : Pl} {r : Rule} (h : RuleN w B a r) (hB : B' ≤ B) : RuleN w B' a r:=⟨h.l.mono hB,h.r.mono hB⟩
theorem RuleN.grown {w w' : World} {B : Nat} {a : Pl} {r : Rule} (h : RuleN w B a r) {B0 n size : Nat} {v : Value} {T : TypeId} {xs : List Value} (hT : 9 ≠ T) (hown : w.ownsRow B0 T size v n xs) (hg : w.grownBy w' v.ownBlock) : RuleN w' B a r:=⟨h.l.grown hT hown hg,h.r.grown hT hown hg⟩
end Go.Proofs.YtdcdabbepnahnaaGreatDoor
set_option linter.unusedVariables false
set_option linter.unusedSimpArgs false
namespace Go.Proofs.YtdcdabbepnahnaaGreatDoor
open Go Go.RowKit Sy
def goodPat (p : Pat) : Prop:=∀ l ∈ p.parts,partOk l = true
theorem goodPat_of {p : Pat} (h : patErr p = 0) : goodPat p:=by
 intro l hl
 obtain ⟨j,hj,e⟩:=List.mem_iff_getElem.1 hl
 rcases hp : partOk l with _ | _
 ·have hg : good j l = false:=by
   unfold good
   split
   ·simp only [partOk,Bool.or_eq_false_iff] at hp;exact hp.1
   ·exact hp
  rw [patErr_bad (by rw [List.getElem?_eq_getElem hj,e]) hg] at h
  omega
 ·rfl

end Go.Proofs.YtdcdabbepnahnaaGreatDoor
set_option linter.unusedVariables false
set_option linter.unusedSimpArgs false
namespace Go.Proofs.YtdcdabbepnahnaaGreatDoor
open Go Go.RowKit Sy

end Go.Proofs.YtdcdabbepnahnaaGreatDoor
set_option linter.unusedVariables false
set_option linter.unusedSimpArgs false
namespace Go.Proofs.YtdcdabbepnahnaaGreatDoor
open Go Go.RowKit Sy

theorem starTo_succ {p : Pat} {k : Nat} {x : Str} (h : p.parts[k]? = some x) : starTo p (k + 1) = starTo p k + if isStar x then 1 else 0:=by
 obtain ⟨hlt,he⟩:=List.getElem?_eq_some_iff.1 h
 rw [starTo,List.take_succ_eq_append_getElem hlt,List.filter_append,he,List.length_append,← starTo]
 rcases hs : isStar x with _ | _ <;> simp [List.filter_cons,hs]
theorem starTo_all (p : Pat) : starTo p p.parts.length = starN p:=by rw [starTo,List.take_length,starN]

set_option maxHeartbeats 1000000 in
theorem kinds_e (p : Pat) (v : Int) (A : Option Addr) (c : Nat) (w : World) (hr : StrsG w A p.parts) (hnc : p.parts.length ≤ c) (hc47 : c ≤ 9223372036854775807) (hv : patErr p = v) (hv0 : v ≠ 0) :
  Calls Tryz.prog 109 #[.agg #[.slice A p.parts.length c,.bool p.rest]] w fun e w'=>e = .returned (.tuple #[.int .i64 0,.bool false,.int .i64 v]) ∧ Calm w w':=by
 obtain ⟨w1,hw1⟩ : ∃ w1,w1 = w.alloc (.cells #[.slice A p.parts.length c,.bool p.rest] 51):=⟨_,rfl⟩
 have hc1 : Calm w w1:=by rw [hw1];exact (Calm.refl w).alloc _
 have hck:=pcheckG_c p A c w1 (hr.calm hc1) hnc hc47
 rw [hv] at hck
 have hvb : (v != 0) = true:=by simpa using hv0
 have HW:=Lib.hid hw1
 have HC:=Lib.hid hc1
 clear hw1 hc1 hr hv hv0 hnc
 generalize p.parts.length = n at *
 generalize p.rest = re at *
 go_enter Tryz.func109,Tryz.ntmps109
 go_wp2_with (go_at_call 110;rw [← HW.out];refine hck.mono ?_;rintro e w2 ⟨rfl,hc2⟩)
 go_ret3
 exact ⟨rfl,HC.out.trans hc2⟩

set_option maxHeartbeats 1000000 in
theorem kinds_c (p : Pat) (A : Option Addr) (c : Nat) (w : World) (hr : StrsG w A p.parts) (hnc : p.parts.length ≤ c) (hc47 : c ≤ 9223372036854775807) (hv : patErr p = 0) :
  Calls Tryz.prog 109 #[.agg #[.slice A p.parts.length c,.bool p.rest]] w fun e w'=>e = .returned (.tuple #[.int .i64 (starN p : Nat),.bool p.rest,.int .i64 0]) ∧ Calm w w':=by
 obtain ⟨n,hn⟩ : ∃ n,p.parts.length = n:=⟨_,rfl⟩
 obtain ⟨re,hre⟩ : ∃ re,p.rest = re:=⟨_,rfl⟩
 obtain ⟨w1,hw1⟩ : ∃ w1,w1 = w.alloc (.cells #[.slice A n c,.bool re] 51):=⟨_,rfl⟩
 have hc1 : Calm w w1:=by rw [hw1];exact (Calm.refl w).alloc _
 have hs1 : w.heap.size < w1.heap.size:=by rw [hw1];simp
 have k0 : w1.cell? ⟨w.heap.size,0,none⟩ = some (.slice A n c):=by rw [hw1];simp
 have k1 : w1.cell? ⟨w.heap.size,1,none⟩ = some (.bool re):=by rw [hw1];simp
 have hck:=pcheckG_c p A c w1 (hr.calm hc1) hnc hc47
 have h12:=patErr_len hv
 rw [hv,hn,hre] at hck
 rw [hn] at h12
 rw [hre]
 have HW:=Lib.hid hw1
 have HC:=Lib.hid hc1
 have HN:=Lib.hid hn
 have HK:=Lib.hid (And.intro k0 k1)
 have HR:=Lib.hid (hr.calm hc1)
 rw [hn]
 clear hw1 hc1 hr hv hnc hn hre k0 k1
 go_enter Tryz.func109,Tryz.ntmps109
 go_wp2_with (go_at_call 110;rw [← HW.out];refine hck.mono ?_;rintro e w2 ⟨rfl,hc2⟩;have l0:=hc2.at_ HK.out.1 hs1)
 have HC2:=Lib.hid hc2
 clear hc2 l0 hck
 go_loopw [2,16] (fun t q wr=>∃ k T : Nat,k ≤ n ∧ q = .int .i64 k ∧ t = .int .i64 T ∧ T ≤ k ∧ Hid (starTo p k = T) ∧ Hid (Calm w1 wr)) (fun _ q _=>n - (intOf q).toNat)
 case atStart=>exact ⟨0,0,Nat.zero_le _,rfl,rfl,Nat.le_refl _,rfl,HC2.out⟩
 case round=>
  obtain ⟨k,T,hk,rfl,rfl,hT,HT,HCr⟩:=hrel
  by_cases hlt : k < n
  ·obtain ⟨b,o,x,rfl,hb,hx,hxl,hxc⟩:=(HR.out.calm HCr.out).get (k:=k) (by rw [HN.out];exact hlt)
   have hst:=starTo_succ hx
   rw [HT.out] at hst
   have HSt:=Lib.hid hst
   clear hx hst
   rcases hs : isStar x with _ | _
   ·go_wp2_with (go_at_call 119;refine (isStar_v _ _ _ hs).mono ?_;rintro e w' ⟨rfl,rfl⟩)
    go_roundw
    case rel=>exact ⟨k + 1,T,by omega,by go_num,rfl,by omega,(by show starTo p (k + 1) = T;rw [HSt.out,hs];rfl),HCr.out⟩
    case measure=>simp [intOf];omega
   ·go_wp2_with (go_at_call 119;refine (isStar_v _ _ _ hs).mono ?_;rintro e w' ⟨rfl,rfl⟩)
    go_roundw
    case rel=>exact ⟨k + 1,T + 1,by omega,by go_num,by go_num,by omega,(by show starTo p (k + 1) = T + 1;rw [HSt.out,hs];rfl),HCr.out⟩
    case measure=>simp [intOf];omega
  ·have hT2 : Hid (starN p = T):=by
    show starN p = T
    rw [← starTo_all,HN.out,show n = k by omega]
    exact HT.out
   have l1:=HCr.out.at_ HK.out.2 hs1
   go_wp2_with fail
   go_quiet (fail)
   go_wp2
   go_ret3
   exact ⟨by rw [hT2.out];rfl,HC.out.trans (HCr.out.drewN _)⟩

end Go.Proofs.YtdcdabbepnahnaaGreatDoor
set_option linter.unusedVariables false
set_option linter.unusedSimpArgs false
namespace Go.Proofs.YtdcdabbepnahnaaGreatDoor
open Go Go.RowKit Sy
structure BoxR (w1 : World) (B : Nat) (a : Pl) (r : Rule) (nl nr : Nat) (lr rr ex : Bool) : Prop where
 lt : B < w1.heap.size
 c0 : w1.cell? ⟨B,0,none⟩ = some (.bool ex)
 c1 : w1.cell? ⟨B,1,none⟩ = some (.slice a.AL nl a.cl)
 c2 : w1.cell? ⟨B,2,none⟩ = some (.bool lr)
 c3 : w1.cell? ⟨B,3,none⟩ = some (.slice a.AR nr a.cr)
 c4 : w1.cell? ⟨B,4,none⟩ = some (.bool rr)
theorem BoxR.calm {w1 w2 : World} {B : Nat} {a : Pl} {r : Rule} {nl nr : Nat} {lr rr ex : Bool} (h : BoxR w1 B a r nl nr lr rr ex) (hc : Calm w1 w2) : BoxR w2 B a r nl nr lr rr ex:=
 ⟨Nat.lt_of_lt_of_le h.lt hc.size,hc.at_ h.c0 h.lt,hc.at_ h.c1 h.lt,hc.at_ h.c2 h.lt,hc.at_ h.c3 h.lt,hc.at_ h.c4 h.lt⟩

theorem ruleErr_left {r : Rule} (h : patErr r.left ≠ 0) : ruleErr r = 40:=by rw [ruleErr,if_pos h]
theorem ruleErr_right {r : Rule} (h0 : patErr r.left = 0) (h : patErr r.right ≠ 0) : ruleErr r = 41:=by rw [ruleErr,if_neg (by simpa using h0),if_pos h]
theorem ruleErr_kinds {r : Rule} (h0 : patErr r.left = 0) (h1 : patErr r.right = 0) : ruleErr r = if starN r.left ≠ starN r.right ∨ r.left.rest ≠ r.right.rest then 42 else 0:=by rw [ruleErr,if_neg (by simpa using h0),if_neg (by simpa using h1)]
theorem starN_le (p : Pat) (h : patErr p = 0) : starN p ≤ 12:=by
 have h1:=List.length_filter_le isStar p.parts
 have h2:=patErr_len h
 unfold starN
 omega

set_option maxHeartbeats 2000000 in
theorem rule_c (r : Rule) (a : Pl) (w : World) (hr : RuleU w a r) : Calls Tryz.prog 72 #[ruleV a r] w fun e w'=>e = .returned (.int .i64 (ruleErr r)) ∧ Calm w w':=by
 obtain ⟨nl,hnl⟩ : ∃ nl,r.left.parts.length = nl:=⟨_,rfl⟩
 obtain ⟨nr,hnr⟩ : ∃ nr,r.right.parts.length = nr:=⟨_,rfl⟩
 obtain ⟨lr,hlr⟩ : ∃ lr,r.left.rest = lr:=⟨_,rfl⟩
 obtain ⟨rr,hrr⟩ : ∃ rr,r.right.rest = rr:=⟨_,rfl⟩
 obtain ⟨ex,hex⟩ : ∃ ex,r.excl = ex:=⟨_,rfl⟩
 obtain ⟨w1,hw1⟩ : ∃ w1,w1 = w.alloc (.cells #[.bool ex,.slice a.AL nl a.cl,.bool lr,.slice a.AR nr a.cr,.bool rr] 69):=⟨_,rfl⟩
 have hc1 : Calm w w1:=by rw [hw1];exact (Calm.refl w).alloc _
 have hbox : BoxR w1 w.heap.size a r nl nr lr rr ex:=by rw [hw1];exact ⟨by simp,by simp,by simp,by simp,by simp,by simp⟩
 have hru:=hr.calm hc1
 unfold ruleV
 rw [hnl,hnr,hlr,hrr,hex]
 have HW:=Lib.hid hw1
 have HC:=Lib.hid hc1
 have HN:=Lib.hid (And.intro hnl (And.intro hnr (And.intro hlr hrr)))
 have HB:=Lib.hid hbox
 have HR:=Lib.hid hru
 obtain ⟨vl,hvl⟩ : ∃ vl,patErr r.left = vl:=⟨_,rfl⟩
 obtain ⟨vr,hvr⟩ : ∃ vr,patErr r.right = vr:=⟨_,rfl⟩
 have HVl:=Lib.hid hvl
 have HVr:=Lib.hid hvr
 have b1:=hbox.c1
 have b2:=hbox.c2
 rw [hw1] at b1 b2
 clear hw1 hc1 hbox hr hru hnl hnr hlr hrr hex hvl hvr
 go_enter Tryz.func72,Tryz.ntmps72
 by_cases hl0 : vl = 0
 ·subst hl0
  obtain ⟨sl,hsl⟩ : ∃ sl,starN r.left = sl:=⟨_,rfl⟩
  have hk1 : Calls Tryz.prog 109 #[.agg #[.slice a.AL nl a.cl,.bool lr]] w1 fun e w'=>e = .returned (.tuple #[.int .i64 (sl : Nat),.bool lr,.int .i64 0]) ∧ Calm w1 w':=by
   have:=kinds_c r.left a.AL a.cl w1 HR.out.lr.toG HR.out.lroom HR.out.lcap HVl.out
   rw [hsl,HN.out.1,HN.out.2.2.1] at this
   exact this
  have hsl12:=starN_le r.left HVl.out
  rw [hsl] at hsl12
  have HSl:=Lib.hid hsl
  clear hsl
  go_wp2_with fail
  rw [← HW.out]
  refine hk1.mono ?_
  rintro e w2 ⟨rfl,hc2⟩
  have b3:=(HB.out.calm hc2).c3
  have b4:=(HB.out.calm hc2).c4
  clear b1 b2 hk1
  by_cases hr0 : vr = 0
  ·subst hr0
   obtain ⟨sr,hsr⟩ : ∃ sr,starN r.right = sr:=⟨_,rfl⟩
   have hk2 : Calls Tryz.prog 109 #[.agg #[.slice a.AR nr a.cr,.bool rr]] w2 fun e w'=>e = .returned (.tuple #[.int .i64 (sr : Nat),.bool rr,.int .i64 0]) ∧ Calm w2 w':=by
    have h2:=HR.out.calm hc2
    have:=kinds_c r.right a.AR a.cr w2 h2.rr.toG h2.rroom h2.rcap HVr.out
    rw [hsr,HN.out.2.1,HN.out.2.2.2] at this
    exact this
   have hsr12:=starN_le r.right HVr.out
   rw [hsr] at hsr12
   have hv : Hid (ruleErr r = if sl ≠ sr ∨ lr ≠ rr then 42 else 0):=by
    show ruleErr r = _
    rw [ruleErr_kinds HVl.out HVr.out,HSl.out,hsr,HN.out.2.2.1,HN.out.2.2.2]
   clear hsr
   by_cases hss : sl = sr
   ·obtain rfl : sl = sr:=hss
    have hb1 : ((sl : Int) != (sl : Int)) = false:=by simp
    cases lr
    all_goals cases rr
    all_goals
     go_wp2_with fail
     refine hk2.mono ?_
     rintro e w3 ⟨rfl,hc3⟩
     go_wp2
     go_ret
     exact ⟨ret_int (by rw [hv.out];simp),HC.out.trans (hc2.trans hc3)⟩
   ·have hb1 : ((sl : Int) != (sr : Int)) = true:=by simp;omega
    have hv2 : Hid (ruleErr r = 42):=by
     show ruleErr r = 42
     rw [hv.out,if_pos (.inl hss)]
    clear hv hss
    go_wp2_with fail
    refine hk2.mono ?_
    rintro e w3 ⟨rfl,hc3⟩
    go_wp2
    go_ret
    exact ⟨ret_int (by rw [hv2.out]),HC.out.trans (hc2.trans hc3)⟩
  ·have hk2 : Calls Tryz.prog 109 #[.agg #[.slice a.AR nr a.cr,.bool rr]] w2 fun e w'=>e = .returned (.tuple #[.int .i64 0,.bool false,.int .i64 vr]) ∧ Calm w2 w':=by
    have h2:=HR.out.calm hc2
    have:=kinds_e r.right vr a.AR a.cr w2 h2.rr.toG h2.rroom h2.rcap HVr.out hr0
    rw [HN.out.2.1,HN.out.2.2.2] at this
    exact this
   have hv2 : Hid (ruleErr r = 41):=ruleErr_right HVl.out (by rw [HVr.out];exact hr0)
   have hvb : (vr != 0) = true:=by simpa using hr0
   clear hr0
   go_wp2_with fail
   refine hk2.mono ?_
   rintro e w3 ⟨rfl,hc3⟩
   go_wp2
   go_ret
   exact ⟨ret_int (by rw [hv2.out]),HC.out.trans (hc2.trans hc3)⟩
 ·have hk1 : Calls Tryz.prog 109 #[.agg #[.slice a.AL nl a.cl,.bool lr]] w1 fun e w'=>e = .returned (.tuple #[.int .i64 0,.bool false,.int .i64 vl]) ∧ Calm w1 w':=by
   have:=kinds_e r.left vl a.AL a.cl w1 HR.out.lr.toG HR.out.lroom HR.out.lcap HVl.out hl0
   rw [HN.out.1,HN.out.2.2.1] at this
   exact this
  have hv2 : Hid (ruleErr r = 40):=ruleErr_left (by rw [HVl.out];exact hl0)
  have hvb : (vl != 0) = true:=by simpa using hl0
  clear hl0
  go_wp2_with fail
  rw [← HW.out]
  refine hk1.mono ?_
  rintro e w2 ⟨rfl,hc2⟩
  go_wp2
  go_ret
  exact ⟨ret_int (by rw [hv2.out]),HC.out.trans hc2⟩
end Go.Proofs.YtdcdabbepnahnaaGreatDoor
set_option linter.unusedVariables false
set_option linter.unusedSimpArgs false
namespace Go.Proofs.YtdcdabbepnahnaaGreatDoor.Sy

end Go.Proofs.YtdcdabbepnahnaaGreatDoor.Sy
set_option linter.unusedVariables false
set_option linter.unusedSimpArgs false
namespace Go.Proofs.YtdcdabbepnahnaaGreatDoor.Sy

structure Ent where
 left : Pat
 right : Pat
 hs : List Pat
deriving DecidableEq,Inhabited
def Ent.reg (x : Ent) : Reg:=⟨x.left,x.hs⟩
def Ent.rule (x : Ent) : Rule:=⟨false,x.left,x.right⟩
theorem matchS_path {p : Pat} (hp : patErr p = 0) {s : Str} {l : List Str} (h : pathOf s = some l) : matchS p s = matchL p l:=by
 unfold matchS
 rw [h]
 simp [okPat,hp]
end Go.Proofs.YtdcdabbepnahnaaGreatDoor.Sy
set_option linter.unusedVariables false
set_option linter.unusedSimpArgs false
namespace Go.Proofs.YtdcdabbepnahnaaGreatDoor
open Go Go.RowKit Sy
structure SmallR (r : Rule) : Prop where
 lp : r.left.parts.length ≤ 16384
 ls : ∀ x ∈ r.left.parts,x.length ≤ 16384
 rp : r.right.parts.length ≤ 16384
 rs : ∀ x ∈ r.right.parts,x.length ≤ 16384
theorem SmallR.turn {r : Rule} (h : SmallR r) : SmallR r.turn:=⟨h.rp,h.rs,h.lp,h.ls⟩
theorem RuleU.left {w : World} {a : Pl} {r : Rule} (h : RuleU w a r) (hs : SmallR r) : StrsR w a.AL r.left.parts:=h.lr.toR hs.lp hs.ls
theorem RuleU.right {w : World} {a : Pl} {r : Rule} (h : RuleU w a r) (hs : SmallR r) : StrsR w a.AR r.right.parts:=h.rr.toR hs.rp hs.rs

end Go.Proofs.YtdcdabbepnahnaaGreatDoor
set_option linter.unusedVariables false
set_option linter.unusedSimpArgs false
namespace Go.Proofs.YtdcdabbepnahnaaGreatDoor
open Go Go.RowKit Sy

structure NewE where
 LA : Option Addr
 lc : Nat
 RA : Option Addr
 rc : Nat
 HA : Option Addr
 hc : Nat
 e : Ent
deriving Inhabited
def encE (x : NewE) : List Value:=[.slice x.LA x.e.left.parts.length x.lc,.bool x.e.left.rest,.slice x.RA x.e.right.parts.length x.rc,.bool x.e.right.rest,.slice x.HA x.e.hs.length x.hc]
theorem encE_len (x : NewE) : (encE x).length = 5:=rfl
theorem encE_one (x : NewE) : ∀ u ∈ encE x,u.oneCell' = true:=by simp [encE,Value.oneCell']
theorem info_ent : (Tryz.prog.info? 73).map (fun i=>(i.zero,i.size,i.bytes)) = some (some (.agg #[.slice none 0 0,.bool false,.slice none 0 0,.bool false,.slice none 0 0]),5,88):=by kernel_rfl
structure EntN (w : World) (B : Nat) (x : NewE) : Prop where
 l : SmallN w B ⟨x.LA,x.lc,x.e.left⟩
 r : SmallN w B ⟨x.RA,x.rc,x.e.right⟩
 h : PatsN w B x.HA x.hc x.e.hs
 few : x.e.hs.length ≤ 16384
theorem EntN.calm {w w' : World} {B : Nat} {x : NewE} (h : EntN w B x) (hc : Calm w w') : EntN w' B x:=⟨h.l.calm hc,h.r.calm hc,h.h.calm hc,h.few⟩
theorem EntN.mono {w : World} {B B' : Nat} {x : NewE} (h : EntN w B x) (hB : B' ≤ B) : EntN w B' x:=⟨h.l.mono hB,h.r.mono hB,h.h.mono hB,h.few⟩
theorem EntN.own {w w' : World} {B : Nat} {x : NewE} (h : EntN w B x) {B0 n K : Nat} {v : Value} {T : TypeId} {xs : List Value} (hT : 51 ≠ T) (hS : 9 ≠ T) (hown : w.ownsRow B0 T K v n xs) (hg : w.grownBy w' v.ownBlock) : EntN w' B x:=
 ⟨h.l.own hS hown hg,h.r.own hS hown hg,h.h.own hT hS hown hg,h.few⟩
structure EntU (w : World) (z : NewE) : Prop where
 l : PatA w z.LA z.lc z.e.left
 r : PatA w z.RA z.rc z.e.right
 h : PatsR w z.HA z.e.hs
 room : z.e.hs.length ≤ z.hc
 cap : z.hc ≤ 9223372036854775807
theorem EntU.calm {w w' : World} {z : NewE} (h : EntU w z) (hc : Calm w w') : EntU w' z:=⟨h.l.calm hc,h.r.calm hc,h.h.calm hc,h.room,h.cap⟩
theorem EntN.u {w : World} {B : Nat} {x : NewE} (h : EntN w B x) : EntU w x:=⟨h.l.a,h.r.a,h.h.reads h.few,h.h.room,h.h.cap⟩
theorem read_newE {w : World} {n : Nat} (y : NewE) {l r h : Nat} {lb rb : Bool} (hn : w.heap.size = n) (hl : y.e.left.parts.length = l) (hlb : y.e.left.rest = lb) (hr : y.e.right.parts.length = r) (hrb : y.e.right.rest = rb) (hh : y.e.hs.length = h) : ReadX encE 5 (w.alloc (.cells #[.slice y.LA l y.lc,.bool lb,.slice y.RA r y.rc,.bool rb,.slice y.HA h y.hc] 73)) (some ⟨n,0,none⟩) [y]:=fun _=>by
 refine ⟨n,0,rfl,by rw [← hn];simp [go_sem],fun k x hk i u hu=>?_⟩
 have h0 : k = 0:=by
  have:=(List.getElem?_eq_some_iff.1 hk).1
  simp at this
  exact this
 subst h0
 obtain rfl : y = x:=by simpa using hk
 subst hn hl hlb hr hrb hh
 rw [cell_of_row _ w.heap.size _ _ _ _ (heap_alloc_new w _)]
 simpa [encE] using hu
theorem read_newH {w : World} {n : Nat} (y : NewP) {m : Nat} {r : Bool} (h : w.heap.size = n) (hm : y.p.parts.length = m) (hr : y.p.rest = r) : ReadX encP 2 (w.alloc (.cells #[.slice y.A m y.c,.bool r] 51)) (some ⟨n,0,none⟩) [y]:=fun _=>by
 refine ⟨n,0,rfl,by rw [← h];simp [go_sem],fun k x hk i u hu=>?_⟩
 have h0 : k = 0:=by
  have:=(List.getElem?_eq_some_iff.1 hk).1
  simp at this
  exact this
 subst h0
 obtain rfl : y = x:=by simpa using hk
 subst h hm hr
 rw [cell_of_row _ w.heap.size _ _ _ _ (heap_alloc_new w _)]
 simpa [encP] using hu

theorem take_snoc {α : Type} {ls : List α} {k : Nat} {q : α} (hq : ls[k]? = some q) : ls.take (k + 1) = ls.take k ++ [q]:=by
 rw [List.take_add_one,hq]
 rfl
end Go.Proofs.YtdcdabbepnahnaaGreatDoor
