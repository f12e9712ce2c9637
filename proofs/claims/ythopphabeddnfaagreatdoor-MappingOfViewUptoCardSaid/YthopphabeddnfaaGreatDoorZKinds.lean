/- Walks: the kinds of a pattern; the Checks of a line. -/
import Derived.Deep.QuietTactic
import Derived.BigQuiet
import Derived.Test.YthopphabeddnfaaGreatDoorZStr
import Derived.Test.YthopphabeddnfaaGreatDoorZView
import Derived.Test.YthopphabeddnfaaGreatDoorZCopyP
import Derived.Test.YthopphabeddnfaaGreatDoorZWalkG
import Derived.Test.YthopphabeddnfaaGreatDoorZMatch
import Derived.Test.YthopphabeddnfaaGreatDoorZWalkD
import Derived.Test.YthopphabeddnfaaGreatDoorZCheckG
set_option linter.unusedVariables false
set_option linter.unusedSimpArgs false
namespace Go.Proofs.YthopphabeddnfaaGreatDoor
open Go.RowKit Sy
structure Pl where
 AL : Option Addr
 cl : Nat
 AR : Option Addr
 cr : Nat
deriving Inhabited
def Pl.turn (a : Pl) : Pl:=⟨a.AR,a.cr,a.AL,a.cl⟩
def ruleV (a : Pl) (r : Rule) : Value:=.agg #[.bool r.excl,.slice a.AL r.left.parts.length a.cl,.bool r.left.rest,.slice a.AR r.right.parts.length a.cr,.bool r.right.rest]
structure RuleU (w : World) (a : Pl) (r : Rule) : Prop where
 lr : StrsU w a.AL r.left.parts
 rr : StrsU w a.AR r.right.parts
 lroom : r.left.parts.length ≤ a.cl
 rroom : r.right.parts.length ≤ a.cr
 lcap : a.cl ≤ 9223372036854775807
 rcap : a.cr ≤ 9223372036854775807
theorem RuleU.calm {w w' : World} {a : Pl} {r : Rule} (h : RuleU w a r) (hc : Calm w w') : RuleU w' a r:=⟨h.lr.calm hc,h.rr.calm hc,h.lroom,h.rroom,h.lcap,h.rcap⟩
theorem RuleU.turn {w : World} {a : Pl} {r : Rule} (h : RuleU w a r) : RuleU w a.turn r.turn:=⟨h.rr,h.lr,h.rroom,h.lroom,h.rcap,h.lcap⟩
structure RuleAt (w : World) (b o : Nat) (a : Pl) (r : Rule) : Prop where
 c0 : w.cell? ⟨b,o,none⟩ = some (.bool r.excl)
 c1 : w.cell? ⟨b,o + 1,none⟩ = some (.slice a.AL r.left.parts.length a.cl)
 c2 : w.cell? ⟨b,o + 2,none⟩ = some (.bool r.left.rest)
 c3 : w.cell? ⟨b,o + 3,none⟩ = some (.slice a.AR r.right.parts.length a.cr)
 c4 : w.cell? ⟨b,o + 4,none⟩ = some (.bool r.right.rest)
theorem RuleAt.calm {w w' : World} {b o : Nat} {a : Pl} {r : Rule} (h : RuleAt w b o a r) (hc : Calm w w') (hb : b < w.heap.size) : RuleAt w' b o a r:=
 ⟨(hc.cell (p:=⟨b,o,none⟩) hb).trans h.c0,(hc.cell (p:=⟨b,o + 1,none⟩) hb).trans h.c1,(hc.cell (p:=⟨b,o + 2,none⟩) hb).trans h.c2,(hc.cell (p:=⟨b,o + 3,none⟩) hb).trans h.c3,(hc.cell (p:=⟨b,o + 4,none⟩) hb).trans h.c4⟩
structure RulesU (w : World) (A : Option Addr) (rs : List Rule) : Prop where
 len : rs.length ≤ 1048577
 at_ : 0 < rs.length → ∃ b o,A = some ⟨b,o,none⟩ ∧ b < w.heap.size ∧ ∀ k r,rs[k]? = some r → ∃ a,RuleAt w b (o + k * 5) a r ∧ RuleU w a r
theorem RulesU.calm {w w' : World} {A : Option Addr} {rs : List Rule} (h : RulesU w A rs) (hc : Calm w w') : RulesU w' A rs:=
 ⟨h.len,fun h0=>by
  obtain ⟨b,o,rfl,hb,hk⟩:=h.at_ h0
  refine ⟨b,o,rfl,Nat.lt_of_lt_of_le hb hc.size,fun k r hr=>?_⟩
  obtain ⟨a,h1,h2⟩:=hk k r hr
  exact ⟨a,h1.calm hc hb,h2.calm hc⟩⟩
theorem RulesU.get {w : World} {A : Option Addr} {rs : List Rule} (h : RulesU w A rs) {k : Nat} (hk : k < rs.length) : ∃ b o r a,A = some ⟨b,o,none⟩ ∧ b < w.heap.size ∧ rs[k]? = some r ∧ RuleAt w b (o + k * 5) a r ∧ RuleU w a r:=by
 obtain ⟨b,o,hA,hb,hc⟩:=h.at_ (by omega)
 obtain ⟨a,h1,h2⟩:=hc k _ (List.getElem?_eq_getElem hk)
 exact ⟨b,o,rs[k],a,hA,hb,List.getElem?_eq_getElem hk,h1,h2⟩
end Go.Proofs.YthopphabeddnfaaGreatDoor
set_option linter.unusedVariables false
set_option linter.unusedSimpArgs false
namespace Go.Proofs.YthopphabeddnfaaGreatDoor
open Go Go.RowKit Sy
structure RuleN (w : World) (B : Nat) (a : Pl) (r : Rule) : Prop where
 l : NewS w B a.AL a.cl r.left.parts
 r : NewS w B a.AR a.cr r.right.parts
theorem RuleN.u {w : World} {B : Nat} {a : Pl} {r : Rule} (h : RuleN w B a r) : RuleU w a r:=⟨h.l.u,h.r.u,h.l.room,h.r.room,h.l.cap,h.r.cap⟩
theorem RuleN.calm {w w' : World} {B : Nat} {a : Pl} {r : Rule} (h : RuleN w B a r) (hc : Calm w w') : RuleN w' B a r:=⟨h.l.calm hc,h.r.calm hc⟩
theorem RuleN.mono {w : World} {B B' : Nat} {a : Pl} {r : Rule} (h : RuleN w B a r) (hB : B' ≤ B) : RuleN w B' a r:=⟨h.l.mono hB,h.r.mono hB⟩
theorem RuleN.grown {w w' : World} {B : Nat} {a : Pl} {r : Rule} (h : RuleN w B a r) {B0 n size : Nat} {v : Value} {T : TypeId} {xs : List Value} (hT : 9 ≠ T) (hown : w.ownsRow B0 T size v n xs) (hg : w.grownBy w' v.ownBlock) : RuleN w' B a r:=⟨h.l.grown hT hown hg,h.r.grown hT hown hg⟩
end Go.Proofs.YthopphabeddnfaaGreatDoor
set_option linter.unusedVariables false
set_option linter.unusedSimpArgs false
namespace Go.Proofs.YthopphabeddnfaaGreatDoor
open Go Go.RowKit Sy
def goodPat (p : Pat) : Prop:=∀ l ∈ p.parts,partOk l = true
theorem goodPat_of {p : Pat} (h : patErr p = 0) : goodPat p:=by
 intro l hl
 obtain ⟨j,hj,e⟩:=List.mem_iff_getElem.1 hl
 rcases hp : partOk l with _ | _
 ·have hg : good j l = false:=by
   unfold good
   split
   ·simp only [partOk,Bool.or_eq_false_iff] at hp;exact hp.1
   ·exact hp
  rw [patErr_bad (by rw [List.getElem?_eq_getElem hj,e]) hg] at h
  omega
 ·rfl

end Go.Proofs.YthopphabeddnfaaGreatDoor
set_option linter.unusedVariables false
set_option linter.unusedSimpArgs false
namespace Go.Proofs.YthopphabeddnfaaGreatDoor
open Go Go.RowKit Sy

end Go.Proofs.YthopphabeddnfaaGreatDoor
set_option linter.unusedVariables false
set_option linter.unusedSimpArgs false
namespace Go.Proofs.YthopphabeddnfaaGreatDoor
open Go Go.RowKit Sy

theorem starTo_succ {p : Pat} {k : Nat} {x : Str} (h : p.parts[k]? = some x) : starTo p (k + 1) = starTo p k + if isStar x then 1 else 0:=by
 obtain ⟨hlt,he⟩:=List.getElem?_eq_some_iff.1 h
 rw [starTo,List.take_succ_eq_append_getElem hlt,List.filter_append,he,List.length_append,← starTo]
 rcases hs : isStar x with _ | _ <;> simp [List.filter_cons,hs]
theorem starTo_all (p : Pat) : starTo p p.parts.length = starN p:=by rw [starTo,List.take_length,starN]

set_option maxHeartbeats 1000000 in
theorem kinds_e (p : Pat) (v : Int) (A : Option Addr) (c : Nat) (w : World) (hr : StrsG w A p.parts) (hnc : p.parts.length ≤ c) (hc47 : c ≤ 9223372036854775807) (hv : patErr p = v) (hv0 : v ≠ 0) :
  Calls Tryz.prog 59 #[.agg #[.slice A p.parts.length c,.bool p.rest]] w fun e w'=>e = .returned (.tuple #[.int .i64 0,.bool false,.int .i64 v]) ∧ Calm w w':=by
 obtain ⟨w1,hw1⟩ : ∃ w1,w1 = w.alloc (.cells #[.slice A p.parts.length c,.bool p.rest] 37):=⟨_,rfl⟩
 have hc1 : Calm w w1:=by rw [hw1];exact (Calm.refl w).alloc _
 have hck:=pcheckG_c p A c w1 (hr.calm hc1) hnc hc47
 rw [hv] at hck
 have hvb : (v != 0) = true:=by simpa using hv0
 have HW:=Lib.hid hw1
 have HC:=Lib.hid hc1
 clear hw1 hc1 hr hv hv0 hnc
 generalize p.parts.length = n at *
 generalize p.rest = re at *
 go_enter Tryz.func59,Tryz.ntmps59
 go_wp2_with (go_at_call 60;rw [← HW.out];refine hck.mono ?_;rintro e w2 ⟨rfl,hc2⟩)
 go_ret3
 exact ⟨rfl,HC.out.trans hc2⟩

set_option maxHeartbeats 1000000 in
theorem kinds_c (p : Pat) (A : Option Addr) (c : Nat) (w : World) (hr : StrsG w A p.parts) (hnc : p.parts.length ≤ c) (hc47 : c ≤ 9223372036854775807) (hv : patErr p = 0) :
  Calls Tryz.prog 59 #[.agg #[.slice A p.parts.length c,.bool p.rest]] w fun e w'=>e = .returned (.tuple #[.int .i64 (starN p : Nat),.bool p.rest,.int .i64 0]) ∧ Calm w w':=by
 obtain ⟨n,hn⟩ : ∃ n,p.parts.length = n:=⟨_,rfl⟩
 obtain ⟨re,hre⟩ : ∃ re,p.rest = re:=⟨_,rfl⟩
 obtain ⟨w1,hw1⟩ : ∃ w1,w1 = w.alloc (.cells #[.slice A n c,.bool re] 37):=⟨_,rfl⟩
 have hc1 : Calm w w1:=by rw [hw1];exact (Calm.refl w).alloc _
 have hs1 : w.heap.size < w1.heap.size:=by rw [hw1];simp
 have k0 : w1.cell? ⟨w.heap.size,0,none⟩ = some (.slice A n c):=by rw [hw1];simp
 have k1 : w1.cell? ⟨w.heap.size,1,none⟩ = some (.bool re):=by rw [hw1];simp
 have hck:=pcheckG_c p A c w1 (hr.calm hc1) hnc hc47
 have h12:=patErr_len hv
 rw [hv,hn,hre] at hck
 rw [hn] at h12
 rw [hre]
 have HW:=Lib.hid hw1
 have HC:=Lib.hid hc1
 have HN:=Lib.hid hn
 have HK:=Lib.hid (And.intro k0 k1)
 have HR:=Lib.hid (hr.calm hc1)
 rw [hn]
 clear hw1 hc1 hr hv hnc hn hre k0 k1
 go_enter Tryz.func59,Tryz.ntmps59
 go_wp2_with (go_at_call 60;rw [← HW.out];refine hck.mono ?_;rintro e w2 ⟨rfl,hc2⟩;have l0:=hc2.at_ HK.out.1 hs1)
 have HC2:=Lib.hid hc2
 clear hc2 l0 hck
 go_loopw [2,16] (fun t q wr=>∃ k T : Nat,k ≤ n ∧ q = .int .i64 k ∧ t = .int .i64 T ∧ T ≤ k ∧ Hid (starTo p k = T) ∧ Hid (Calm w1 wr)) (fun _ q _=>n - (intOf q).toNat)
 case atStart=>exact ⟨0,0,Nat.zero_le _,rfl,rfl,Nat.le_refl _,rfl,HC2.out⟩
 case round=>
  obtain ⟨k,T,hk,rfl,rfl,hT,HT,HCr⟩:=hrel
  by_cases hlt : k < n
  ·obtain ⟨b,o,x,rfl,hb,hx,hxl,hxc⟩:=(HR.out.calm HCr.out).get (k:=k) (by rw [HN.out];exact hlt)
   have hst:=starTo_succ hx
   rw [HT.out] at hst
   have HSt:=Lib.hid hst
   clear hx hst
   rcases hs : isStar x with _ | _
   ·go_wp2_with (go_at_call 76;refine (isStar_v _ _ _ hs).mono ?_;rintro e w' ⟨rfl,rfl⟩)
    go_roundw
    case rel=>exact ⟨k + 1,T,by omega,by go_num,rfl,by omega,(by show starTo p (k + 1) = T;rw [HSt.out,hs];rfl),HCr.out⟩
    case measure=>simp [intOf];omega
   ·go_wp2_with (go_at_call 76;refine (isStar_v _ _ _ hs).mono ?_;rintro e w' ⟨rfl,rfl⟩)
    go_roundw
    case rel=>exact ⟨k + 1,T + 1,by omega,by go_num,by go_num,by omega,(by show starTo p (k + 1) = T + 1;rw [HSt.out,hs];rfl),HCr.out⟩
    case measure=>simp [intOf];omega
  ·have hT2 : Hid (starN p = T):=by
    show starN p = T
    rw [← starTo_all,HN.out,show n = k by omega]
    exact HT.out
   have l1:=HCr.out.at_ HK.out.2 hs1
   go_wp2_with fail
   go_quiet (fail)
   go_wp2
   go_ret3
   exact ⟨by rw [hT2.out];rfl,HC.out.trans (HCr.out.drewN _)⟩

end Go.Proofs.YthopphabeddnfaaGreatDoor
