/- Walks: the kinds of a pattern; the Checks of a line. -/
import Derived.Deep.QuietTactic
import Derived.BigQuiet
import Derived.Test.YtnlnclefedohkaaGreatDoorZWalkI
import Derived.Test.YtnlnclefedohkaaGreatDoorZMatch
import Derived.Test.YtnlnclefedohkaaGreatDoorZWalkD
import Derived.Test.YtnlnclefedohkaaGreatDoorZRead
import Derived.Test.YtnlnclefedohkaaGreatDoorZView
import Derived.Test.YtnlnclefedohkaaGreatDoorZCopyP
import Derived.Test.YtnlnclefedohkaaGreatDoorZCheckG
set_option linter.unusedVariables false
set_option linter.unusedSimpArgs false
namespace Go.Proofs.YtnlnclefedohkaaGreatDoor
open Go Go.RowKit Sy

theorem comp_not_star {l : Str} (h : comp l = true) : isStar l = false:=by
 cases l with
 |nil=>rfl
 |cons c t=>
  simp only [comp,Bool.and_eq_true] at h
  rcases hs : isStar (c :: t) with _ | _
  ·rfl
  ·have : c = 42:=by simpa [isStar] using hs
   subst this
   simp [isByte] at h
theorem starOk_iff {l : Str} (h : partOk l = true) : starOk l = isStar l:=by
 rcases hs : starOk l with _ | _
 ·have : comp l = true:=by simpa [partOk,hs] using h
  rw [comp_not_star this]
 ·rw [starOk_star hs]
theorem comp_take {c : Str} (h : comp c = true) (k : Nat) : comp (c.take k) = decide (0 < k):=by
 cases c with
 |nil=>cases h
 |cons a t=>
  cases k with
  |zero=>rfl
  |succ k=>
   simp only [comp,Bool.and_eq_true] at h
   simp only [List.take_succ_cons,comp,h.1.1,h.1.2,Bool.true_and]
   have : (t.take k).all isByte = true:=List.all_eq_true.2 fun b hb=>List.all_eq_true.1 h.2 b (List.mem_of_mem_take hb)
   simp [this]

theorem star_v (l : Str) (b : Bool) (t : Str) (w : World) (hl : l.length ≤ 16384) (hb : starOk l = b) (ht : starSuf l = t) : Calls Tryz.prog 73 #[.string (bs l)] w fun e w'=>e = .returned (.tuple #[.string (bs t),.bool b]) ∧ w = w':=by
 have:=star_c l w (by omega)
 rw [hb,ht] at this
 exact this
def rcapt (part c : Str) : Str:=if isStar part && endsWith c part.tail then c.take (c.length - part.tail.length) else []

theorem bs_take (c : Str) (k : Nat) (h : k ≤ c.length) : (bs c).extract 0 k = bs (c.take k):=by
 apply ByteArray.ext
 apply Array.ext'
 rw [ByteArray.data_extract,Array.toList_extract,bs_toList,bs_toList]
 simp [List.extract_eq_take_drop]

set_option maxHeartbeats 1000000 in
theorem cap_c (part c : Str) (w : World) (hp : part.length ≤ 16384) (hc : c.length ≤ 20000) (hpo : partOk part = true) (hco : comp c = true) :
  Calls Tryz.prog 74 #[.string (bs part),.string (bs c)] w fun e w'=>e = .returned (.tuple #[.string (bs (rcapt part c)),.bool (mtch part c)]) ∧ w = w':=by
 have hso:=starOk_iff hpo
 rcases hs : isStar part with _ | _
 ·have hv : Hid ((rcapt part c,mtch part c) = ([],part == c)):=by show (_,_) = _;simp [rcapt,mtch,hs]
  have hst:=star_v part false [] w hp (by rw [hso,hs]) (by rw [starSuf,hso,hs];rfl)
  clear hso
  go_enter Tryz.func74,Tryz.ntmps74
  go_wp2_with (go_at_call 73;refine hst.mono ?_;rintro e w' ⟨rfl,rfl⟩)
  go_ret2
  have h1:=congrArg Prod.fst hv.out
  have h2:=congrArg Prod.snd hv.out
  dsimp only at h1 h2
  refine ⟨?_,rfl⟩
  rw [h1,h2]
  rfl
 ·have hst:=star_v part true part.tail w hp (by rw [hso,hs]) (by rw [starSuf,hso,hs];rfl)
  obtain ⟨t,ht⟩ : ∃ t,part.tail = t:=⟨_,rfl⟩
  have htl : t.length ≤ 16384:=by rw [← ht,List.length_tail];omega
  rw [ht] at hst
  have HT:=Lib.hid ht
  clear hso ht
  have hsf:=hasSuffix_c c t w (by omega)
  rcases he : endsWith c t with _ | _
  ·have hv : Hid ((rcapt part c,mtch part c) = ([],false)):=by show (_,_) = _;simp [rcapt,mtch,hs,HT.out,he]
   rw [he] at hsf
   go_enter Tryz.func74,Tryz.ntmps74
   go_wp2_with (first | (go_at_call 73;refine hst.mono ?_;rintro e w' ⟨rfl,rfl⟩) | (go_at_call 108;refine hsf.mono ?_;rintro e w' ⟨rfl,rfl⟩))
   go_ret2
   have h1:=congrArg Prod.fst hv.out
   have h2:=congrArg Prod.snd hv.out
   dsimp only at h1 h2
   refine ⟨?_,rfl⟩
   rw [h1,h2]
   rfl
  ·have hle : t.length ≤ c.length:=(endsWith_iff.1 he).length_le
   have hv : Hid ((rcapt part c,mtch part c) = (c.take (c.length - t.length),comp (c.take (c.length - t.length)))):=by
    show (_,_) = _
    rw [comp_take hco]
    simp only [rcapt,mtch,hs,HT.out,he,Bool.and_self,if_true,Bool.true_and]
    congr 1
    rw [decide_eq_decide]
    omega
   rw [he] at hsf
   have hx:=bs_take c (c.length - t.length) (by omega)
   have hcm:=rcomp_c (c.take (c.length - t.length)) w (by rw [List.length_take];omega)
   have hi : ((c.length : Int) - (t.length : Int)) = ((c.length - t.length : Nat) : Int):=by omega
   go_enter Tryz.func74,Tryz.ntmps74
   go_wp2_with (first | (go_at_call 73;refine hst.mono ?_;rintro e w' ⟨rfl,rfl⟩) | (go_at_call 108;refine hsf.mono ?_;rintro e w' ⟨rfl,rfl⟩) | (go_at_call 106;refine hcm.mono ?_;rintro e w' ⟨rfl,rfl⟩))
   go_ret2
   have h1:=congrArg Prod.fst hv.out
   have h2:=congrArg Prod.snd hv.out
   dsimp only at h1 h2
   refine ⟨?_,rfl⟩
   rw [h1,h2]
   rfl
def goodPat (p : Pat) : Prop:=∀ l ∈ p.parts,partOk l = true
theorem goodPat_at {p : Pat} (h : goodPat p) (i : Nat) : partOk (pAt p i) = true:=by
 rcases Nat.lt_or_ge i p.parts.length with hi | hi
 ·have : pAt p i = p.parts[i]:=by simp [pAt,List.getD_eq_getElem?_getD,List.getElem?_eq_getElem hi]
  rw [this];exact h _ (List.getElem_mem hi)
 ·rw [pAt_out hi];rfl
theorem goodPat_of {p : Pat} (h : patErr p = 0) : goodPat p:=by
 intro l hl
 obtain ⟨j,hj,e⟩:=List.mem_iff_getElem.1 hl
 rcases hp : partOk l with _ | _
 ·have hg : good j l = false:=by
   unfold good
   split
   ·simp only [partOk,Bool.or_eq_false_iff] at hp;exact hp.1
   ·exact hp
  rw [patErr_bad (by rw [List.getElem?_eq_getElem hj,e]) hg] at h
  omega
 ·rfl

end Go.Proofs.YtnlnclefedohkaaGreatDoor
set_option linter.unusedVariables false
set_option linter.unusedSimpArgs false
namespace Go.Proofs.YtnlnclefedohkaaGreatDoor
open Go Go.RowKit Sy

end Go.Proofs.YtnlnclefedohkaaGreatDoor
set_option linter.unusedVariables false
set_option linter.unusedSimpArgs false
namespace Go.Proofs.YtnlnclefedohkaaGreatDoor
open Go.RowKit Sy
structure Pl where
 AL : Option Addr
 cl : Nat
 AR : Option Addr
 cr : Nat
deriving Inhabited
def Pl.turn (a : Pl) : Pl:=⟨a.AR,a.cr,a.AL,a.cl⟩
def ruleV (a : Pl) (r : Rule) : Value:=.agg #[.bool r.excl,.slice a.AL r.left.parts.length a.cl,.bool r.left.rest,.slice a.AR r.right.parts.length a.cr,.bool r.right.rest]
structure RuleU (w : World) (a : Pl) (r : Rule) : Prop where
 lr : StrsU w a.AL r.left.parts
 rr : StrsU w a.AR r.right.parts
 lroom : r.left.parts.length ≤ a.cl
 rroom : r.right.parts.length ≤ a.cr
 lcap : a.cl ≤ 9223372036854775807
 rcap : a.cr ≤ 9223372036854775807
theorem RuleU.calm {w w' : World} {a : Pl} {r : Rule} (h : RuleU w a r) (hc : Calm w w') : RuleU w' a r:=⟨h.lr.calm hc,h.rr.calm hc,h.lroom,h.rroom,h.lcap,h.rcap⟩
theorem RuleU.turn {w : World} {a : Pl} {r : Rule} (h : RuleU w a r) : RuleU w a.turn r.turn:=⟨h.rr,h.lr,h.rroom,h.lroom,h.rcap,h.lcap⟩
end Go.Proofs.YtnlnclefedohkaaGreatDoor
set_option linter.unusedVariables false
set_option linter.unusedSimpArgs false
namespace Go.Proofs.YtnlnclefedohkaaGreatDoor
open Go Go.RowKit Sy
structure RuleN (w : World) (B : Nat) (a : Pl) (r : Rule) : Prop where
 l : NewS w B a.AL a.cl r.left.parts
 r : NewS w B a.AR a.cr r.right.parts
theorem RuleN.u {w : World} {B : Nat} {a : Pl} {r : Rule} (h : RuleN w B a r) : RuleU w a r:=⟨h.l.u,h.r.u,h.l.room,h.r.room,h.l.cap,h.r.cap⟩
theorem RuleN.calm {w w' : World} {B : Nat} {a : Pl} {r : Rule} (h : RuleN w B a r) (hc : Calm w w') : RuleN w' B a r:=⟨h.l.calm hc,h.r.calm hc⟩
theorem RuleN.mono {w : World} {B B' : Nat} {a : Pl} {r : Rule} (h : RuleN w B a r) (hB : B' ≤ B) : RuleN w B' a r:=⟨h.l.mono hB,h.r.mono hB⟩
theorem RuleN.grown {w w' : World} {B : Nat} {a : Pl} {r : Rule} (h : RuleN w B a r) {B0 n size : Nat} {v : Value} {T : TypeId} {xs : List Value} (hT : 9 ≠ T) (hown : w.ownsRow B0 T size v n xs) (hg : w.grownBy w' v.ownBlock) : RuleN w' B a r:=⟨h.l.grown hT hown hg,h.r.grown hT hown hg⟩
end Go.Proofs.YtnlnclefedohkaaGreatDoor
set_option linter.unusedVariables false
set_option linter.unusedSimpArgs false
namespace Go.Proofs.YtnlnclefedohkaaGreatDoor
open Go Go.RowKit Sy

theorem starTo_succ {p : Pat} {k : Nat} {x : Str} (h : p.parts[k]? = some x) : starTo p (k + 1) = starTo p k + if isStar x then 1 else 0:=by
 obtain ⟨hlt,he⟩:=List.getElem?_eq_some_iff.1 h
 rw [starTo,List.take_succ_eq_append_getElem hlt,List.filter_append,he,List.length_append,← starTo]
 rcases hs : isStar x with _ | _ <;> simp [List.filter_cons,hs]
theorem starTo_all (p : Pat) : starTo p p.parts.length = starN p:=by rw [starTo,List.take_length,starN]

set_option maxHeartbeats 1000000 in
theorem kinds_e (p : Pat) (v : Int) (A : Option Addr) (c : Nat) (w : World) (hr : StrsG w A p.parts) (hnc : p.parts.length ≤ c) (hc47 : c ≤ 9223372036854775807) (hv : patErr p = v) (hv0 : v ≠ 0) :
  Calls Tryz.prog 89 #[.agg #[.slice A p.parts.length c,.bool p.rest]] w fun e w'=>e = .returned (.tuple #[.int .i64 0,.bool false,.int .i64 v]) ∧ Calm w w':=by
 obtain ⟨w1,hw1⟩ : ∃ w1,w1 = w.alloc (.cells #[.slice A p.parts.length c,.bool p.rest] 40):=⟨_,rfl⟩
 have hc1 : Calm w w1:=by rw [hw1];exact (Calm.refl w).alloc _
 have hck:=pcheckG_c p A c w1 (hr.calm hc1) hnc hc47
 rw [hv] at hck
 have hvb : (v != 0) = true:=by simpa using hv0
 have HW:=Lib.hid hw1
 have HC:=Lib.hid hc1
 clear hw1 hc1 hr hv hv0 hnc
 generalize p.parts.length = n at *
 generalize p.rest = re at *
 go_enter Tryz.func89,Tryz.ntmps89
 go_wp2_with (go_at_call 64;rw [← HW.out];refine hck.mono ?_;rintro e w2 ⟨rfl,hc2⟩)
 go_ret3
 exact ⟨rfl,HC.out.trans hc2⟩

set_option maxHeartbeats 1000000 in
theorem kinds_c (p : Pat) (A : Option Addr) (c : Nat) (w : World) (hr : StrsG w A p.parts) (hnc : p.parts.length ≤ c) (hc47 : c ≤ 9223372036854775807) (hv : patErr p = 0) :
  Calls Tryz.prog 89 #[.agg #[.slice A p.parts.length c,.bool p.rest]] w fun e w'=>e = .returned (.tuple #[.int .i64 (starN p : Nat),.bool p.rest,.int .i64 0]) ∧ Calm w w':=by
 obtain ⟨n,hn⟩ : ∃ n,p.parts.length = n:=⟨_,rfl⟩
 obtain ⟨re,hre⟩ : ∃ re,p.rest = re:=⟨_,rfl⟩
 obtain ⟨w1,hw1⟩ : ∃ w1,w1 = w.alloc (.cells #[.slice A n c,.bool re] 40):=⟨_,rfl⟩
 have hc1 : Calm w w1:=by rw [hw1];exact (Calm.refl w).alloc _
 have hs1 : w.heap.size < w1.heap.size:=by rw [hw1];simp
 have k0 : w1.cell? ⟨w.heap.size,0,none⟩ = some (.slice A n c):=by rw [hw1];simp
 have k1 : w1.cell? ⟨w.heap.size,1,none⟩ = some (.bool re):=by rw [hw1];simp
 have hck:=pcheckG_c p A c w1 (hr.calm hc1) hnc hc47
 have h12:=patErr_len hv
 rw [hv,hn,hre] at hck
 rw [hn] at h12
 rw [hre]
 have HW:=Lib.hid hw1
 have HC:=Lib.hid hc1
 have HN:=Lib.hid hn
 have HK:=Lib.hid (And.intro k0 k1)
 have HR:=Lib.hid (hr.calm hc1)
 rw [hn]
 clear hw1 hc1 hr hv hnc hn hre k0 k1
 go_enter Tryz.func89,Tryz.ntmps89
 go_wp2_with (go_at_call 64;rw [← HW.out];refine hck.mono ?_;rintro e w2 ⟨rfl,hc2⟩;have l0:=hc2.at_ HK.out.1 hs1)
 have HC2:=Lib.hid hc2
 clear hc2 l0 hck
 go_loopw [2,16] (fun t q wr=>∃ k T : Nat,k ≤ n ∧ q = .int .i64 k ∧ t = .int .i64 T ∧ T ≤ k ∧ Hid (starTo p k = T) ∧ Hid (Calm w1 wr)) (fun _ q _=>n - (intOf q).toNat)
 case atStart=>exact ⟨0,0,Nat.zero_le _,rfl,rfl,Nat.le_refl _,rfl,HC2.out⟩
 case round=>
  obtain ⟨k,T,hk,rfl,rfl,hT,HT,HCr⟩:=hrel
  by_cases hlt : k < n
  ·obtain ⟨b,o,x,rfl,hb,hx,hxl,hxc⟩:=(HR.out.calm HCr.out).get (k:=k) (by rw [HN.out];exact hlt)
   have hst:=starTo_succ hx
   rw [HT.out] at hst
   have HSt:=Lib.hid hst
   clear hx hst
   rcases hs : isStar x with _ | _
   ·go_wp2_with (go_at_call 117;refine (isStar_v _ _ _ hs).mono ?_;rintro e w' ⟨rfl,rfl⟩)
    go_roundw
    case rel=>exact ⟨k + 1,T,by omega,by go_num,rfl,by omega,(by show starTo p (k + 1) = T;rw [HSt.out,hs];rfl),HCr.out⟩
    case measure=>simp [intOf];omega
   ·go_wp2_with (go_at_call 117;refine (isStar_v _ _ _ hs).mono ?_;rintro e w' ⟨rfl,rfl⟩)
    go_roundw
    case rel=>exact ⟨k + 1,T + 1,by omega,by go_num,by go_num,by omega,(by show starTo p (k + 1) = T + 1;rw [HSt.out,hs];rfl),HCr.out⟩
    case measure=>simp [intOf];omega
  ·have hT2 : Hid (starN p = T):=by
    show starN p = T
    rw [← starTo_all,HN.out,show n = k by omega]
    exact HT.out
   have l1:=HCr.out.at_ HK.out.2 hs1
   go_wp2_with fail
   go_quiet (fail)
   go_wp2
   go_ret3
   exact ⟨by rw [hT2.out];rfl,HC.out.trans (HCr.out.drewN _)⟩

set_option maxHeartbeats 1000000 in
theorem rkinds_c (p : Pat) (A : Option Addr) (c : Nat) (w : World) (hr : StrsG w A p.parts) (hsh : ∀ x ∈ p.parts,x.length ≤ 16384) (hv : patErr p = 0) :
  Calls Tryz.prog 90 #[.agg #[.slice A p.parts.length c,.bool p.rest]] w fun e w'=>e = .returned (.tuple #[.int .i64 (starN p : Nat),.bool p.rest]) ∧ Calm w w':=by
 obtain ⟨n,hn⟩ : ∃ n,p.parts.length = n:=⟨_,rfl⟩
 obtain ⟨re,hre⟩ : ∃ re,p.rest = re:=⟨_,rfl⟩
 obtain ⟨w1,hw1⟩ : ∃ w1,w1 = w.alloc (.cells #[.slice A n c,.bool re] 40):=⟨_,rfl⟩
 have hc1 : Calm w w1:=by rw [hw1];exact (Calm.refl w).alloc _
 have hs1 : w.heap.size < w1.heap.size:=by rw [hw1];simp
 have k0 : w1.cell? ⟨w.heap.size,0,none⟩ = some (.slice A n c):=by rw [hw1];simp
 have k1 : w1.cell? ⟨w.heap.size,1,none⟩ = some (.bool re):=by rw [hw1];simp
 have h12:=patErr_len hv
 rw [hn] at h12
 rw [hre]
 have HW:=Lib.hid hw1
 have HC:=Lib.hid hc1
 have HN:=Lib.hid hn
 have HSh:=Lib.hid hsh
 have HK:=Lib.hid (And.intro k0 k1)
 have HR:=Lib.hid (hr.calm hc1)
 have HV:=Lib.hid (goodPat_of hv)
 rw [hn]
 clear hw1 hc1 hr hv hn hre k0 k1 hsh
 go_enter Tryz.func90,Tryz.ntmps90
 go_wp2_with fail
 rw [← HW.out]
 go_loopw [4,12] (fun t q wr=>∃ k T : Nat,k ≤ n ∧ q = .int .i64 k ∧ t = .int .i64 T ∧ T ≤ k ∧ Hid (starTo p k = T) ∧ Hid (Calm w1 wr)) (fun _ q _=>n - (intOf q).toNat)
 case atStart=>exact ⟨0,0,Nat.zero_le _,rfl,rfl,Nat.le_refl _,rfl,Calm.refl _⟩
 case round=>
  obtain ⟨k,T,hk,rfl,rfl,hT,HT,HCr⟩:=hrel
  by_cases hlt : k < n
  ·obtain ⟨b,o,x,rfl,hb,hx,hxl,hxc⟩:=(HR.out.calm HCr.out).get (k:=k) (by rw [HN.out];exact hlt)
   have hst:=starTo_succ hx
   have hxm:=List.mem_of_getElem? hx
   have hx16:=HSh.out x hxm
   have hok:=starOk_iff (HV.out x hxm)
   rw [HT.out] at hst
   have HSt:=Lib.hid hst
   clear hx hst hxm
   rcases hs : isStar x with _ | _
   ·rw [hs] at hok
    go_wp2_with (go_at_call 73;refine (star_v x _ _ _ hx16 hok rfl).mono ?_;rintro e w' ⟨rfl,rfl⟩)
    go_roundw
    case rel=>exact ⟨k + 1,T,by omega,by go_num,rfl,by omega,(by show starTo p (k + 1) = T;rw [HSt.out,hs];rfl),HCr.out⟩
    case measure=>simp [intOf];omega
   ·rw [hs] at hok
    go_wp2_with (go_at_call 73;refine (star_v x _ _ _ hx16 hok rfl).mono ?_;rintro e w' ⟨rfl,rfl⟩)
    go_roundw
    case rel=>exact ⟨k + 1,T + 1,by omega,by go_num,by go_num,by omega,(by show starTo p (k + 1) = T + 1;rw [HSt.out,hs];rfl),HCr.out⟩
    case measure=>simp [intOf];omega
  ·have hT2 : Hid (starN p = T):=by
    show starN p = T
    rw [← starTo_all,HN.out,show n = k by omega]
    exact HT.out
   have l1:=HCr.out.at_ HK.out.2 hs1
   go_wp2_with fail
   go_quiet (fail)
   go_wp2
   go_ret2
   exact ⟨by rw [hT2.out];rfl,HC.out.trans (HCr.out.drewN _)⟩
end Go.Proofs.YtnlnclefedohkaaGreatDoor
