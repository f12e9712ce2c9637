/- Walk: the law MappingOverlaps. -/
import Derived.Test.YtnlnclefedohkaaGreatDoorZFwd
import Derived.Test.YtnlnclefedohkaaGreatDoorZFwdM
import Derived.Test.YtnlnclefedohkaaGreatDoorZRedM
import Derived.Test.YtnlnclefedohkaaGreatDoorZChainW
import Derived.Test.YtnlnclefedohkaaGreatDoorZGChkU
import Derived.Test.YtnlnclefedohkaaGreatDoorZEntM
import Derived.Test.YtnlnclefedohkaaGreatDoorZColE
import Derived.Test.YtnlnclefedohkaaGreatDoorZPutA
import Derived.Test.YtnlnclefedohkaaGreatDoorZRAddF
import Derived.Test.YtnlnclefedohkaaGreatDoorZOvK
import Derived.Test.YtnlnclefedohkaaGreatDoorZAgK
import Derived.Test.YtnlnclefedohkaaGreatDoorZMapG
import Derived.Test.YtnlnclefedohkaaGreatDoorZRCmnW
set_option linter.unusedVariables false
set_option linter.unusedSimpArgs false
namespace Go.Proofs.YtnlnclefedohkaaGreatDoor
open Go Go.RowKit Sy

theorem turn_zero (r : Rule) : ruleErr r.turn = 0 ↔ ruleErr r = 0:=⟨fun h=>ruleErr_twin.2 (ruleErr_twin.1 h).turn,fun h=>ruleErr_twin.2 (ruleErr_twin.1 h).turn⟩
set_option maxHeartbeats 2000000 in
theorem bwd_c (r : Rule) (a : Pl) (s : Str) (w : World) (hr : RuleU w a r) (hsm : SmallV r) (hs : s.length ≤ 10000) (hM : MaxL w) :
  Calls Tryz.prog 48 #[ruleV a r,.string (bs s)] w fun e w'=>e = .returned (fwdV r.turn s) ∧ Calm w w':=by
 obtain ⟨nl,hnl⟩ : ∃ nl,r.left.parts.length = nl:=⟨_,rfl⟩
 obtain ⟨nr,hnr⟩ : ∃ nr,r.right.parts.length = nr:=⟨_,rfl⟩
 obtain ⟨lr,hlr⟩ : ∃ lr,r.left.rest = lr:=⟨_,rfl⟩
 obtain ⟨rr,hrr⟩ : ∃ rr,r.right.rest = rr:=⟨_,rfl⟩
 obtain ⟨ex,hex⟩ : ∃ ex,r.excl = ex:=⟨_,rfl⟩
 obtain ⟨w1,hw1⟩ : ∃ w1,w1 = w.alloc (.cells #[.bool ex,.slice a.AL nl a.cl,.bool lr,.slice a.AR nr a.cr,.bool rr] 52):=⟨_,rfl⟩
 have hc1 : Calm w w1:=by rw [hw1];exact (Calm.refl w).alloc _
 have hbox : BoxR w1 w.heap.size a r nl nr lr rr ex:=by rw [hw1];exact ⟨by simp,by simp,by simp,by simp,by simp,by simp⟩
 have hru:=hr.calm hc1
 obtain ⟨v,hv⟩ : ∃ v,ruleErr r = v:=⟨_,rfl⟩
 have hk:=rule_c r a w1 hru
 unfold ruleV at hk ⊢
 rw [hnl,hnr,hlr,hrr,hex] at hk ⊢
 rw [hv] at hk
 have HW:=Lib.hid hw1
 have HC:=Lib.hid hc1
 have HB:=Lib.hid hbox
 have KT : v = 0 → Hid (∀ W,Calm w1 W → Calls Tryz.prog 84 #[.agg #[.slice a.AR nr a.cr,.bool rr],.agg #[.slice a.AL nl a.cl,.bool lr],.string (bs s)] W fun e w'=>e = .returned (fwdV r.turn s) ∧ Calm W w'):=fun hv0 W hW=>by
  have:=trans_c r.turn a.turn s W (hru.calm hW).turn hsm.turn hs ((turn_zero r).2 (by rw [hv,hv0])) ((hM.calm hc1).calm hW)
  unfold Rule.turn Pl.turn at this
  simp only [hnl,hnr,hlr,hrr] at this
  exact this
 have hno : v ≠ 0 → Hid (fwdV r.turn s = .tuple #[.string (bs []),.bool false]):=fun h=>by
  show fwdV r.turn s = _
  rw [fwdV,fwd_err (fun e=>h (by rw [← hv];exact (turn_zero r).1 e))]
  rfl
 have hfv : Hid (fwdV r.turn s = .tuple #[.string (bs ((fwd r.turn s).getD [])),.bool (fwd r.turn s).isSome]):=rfl
 have HFv:=hfv
 clear hw1 hc1 hbox hru hr hM hsm hs hnl hnr hlr hrr hex hv hfv
 generalize bs ((fwd r.turn s).getD []) = fs at HFv
 generalize (fwd r.turn s).isSome = fb at HFv
 go_enter Tryz.func48,Tryz.ntmps48
 by_cases hv0 : v = 0
 ·subst hv0
  have KT2:=KT rfl
  rw [HFv.out] at KT2
  clear KT hno
  go_wp2_with fail
  rw [← HW.out]
  refine hk.mono ?_
  rintro e w2 ⟨rfl,hc2⟩
  have d2:=HB.out.calm hc2
  have e1:=d2.c1
  have e2:=d2.c2
  have e3:=d2.c3
  have e4:=d2.c4
  have hft:=KT2.out w2 hc2
  clear hk KT2
  go_wp2_with (go_at_call 84;refine hft.mono ?_;rintro e w3 ⟨rfl,hc3⟩)
  go_ret2
  exact ⟨by rw [HFv.out];rfl,HC.out.trans (hc2.trans hc3)⟩
 ·have hf:=hno hv0
  have hvb : (v != 0) = true:=by simpa using hv0
  clear KT hno hv0
  go_wp2_with fail
  rw [← HW.out]
  refine hk.mono ?_
  rintro e w2 ⟨rfl,hc2⟩
  go_wp2
  go_ret2
  exact ⟨by rw [hf.out];rfl,HC.out.trans hc2⟩

end Go.Proofs.YtnlnclefedohkaaGreatDoor
set_option linter.unusedVariables false
set_option linter.unusedSimpArgs false
namespace Go.Proofs.YtnlnclefedohkaaGreatDoor
open Go Go.RowKit Sy

theorem join_app_len (K : Nat) (b : List Str) : ∀ a : List Str,(∀ x ∈ a,x.length ≤ K) → (Lib.join (a ++ b) [47]).length ≤ a.length * (K + 1) + (Lib.join b [47]).length
 |[],_=>by simp
 |x :: a,h=>by
  have ih:=join_app_len K b a (fun y hy=>h y (by simp [hy]))
  have hx:=h x (by simp)
  rw [List.cons_append,List.length_cons,Nat.succ_mul]
  rcases hab : a ++ b with _ | ⟨y,t⟩
  ·rw [join47_one]
   omega
  ·rw [join47_cons,← hab]
   simp only [List.length_append,List.length_cons]
   omega
theorem fwd_len {r : Rule} {s t : Str} (hsm : SmallV r) (hs : s.length ≤ 300) (h : fwd r s = some t) : t.length ≤ 8000:=by
 obtain ⟨l,h0,hp,hm,ht,_⟩:=fwd_some h
 have tw:=ruleErr_twin.1 h0
 have h12:=patErr_len tw.rp
 obtain ⟨h2,h3,h4⟩:=pathOf_some hp
 have hjl : (Lib.join l [47]).length ≤ 300:=by
  rw [h4] at hs
  simp only [pathStr,List.length_cons] at hs
  omega
 have hea : ∀ x ∈ l,x.length ≤ 300:=by
  have hh : l = slash (Lib.join l [47]):=(slash_join l (by rintro rfl;simp at h2) (fun x hx=>comp_no47 (List.all_eq_true.1 h3 x hx))).symm
  intro x hx
  rw [hh] at hx
  have:=slash_each _ x hx
  omega
 have hcs:=capsTo_each (p:=r.left) hea r.left.parts.length
 have hK : ∀ x ∈ fillR r.right.parts (capsTo r.left l r.left.parts.length),x.length ≤ 550:=by
  intro y hy
  obtain ⟨j,hj,e⟩:=List.mem_iff_getElem.1 hy
  have hjl : j < r.right.parts.length:=by rw [fillR_len] at hj;exact hj
  have h1:=fillR_get r.right.parts (capsTo r.left l r.left.parts.length) j _ (List.getElem?_eq_getElem hjl)
  rw [List.getElem?_eq_getElem hj,e] at h1
  simp only [Option.some.injEq] at h1
  have h2:=hsm.rs _ (List.getElem_mem hjl)
  rw [h1]
  split
  ·rw [List.length_append,List.length_tail]
   have h3 : ((capsTo r.left l r.left.parts.length).getD ((r.right.parts.take j).filter isStar).length []).length ≤ 300:=by
    rw [List.getD_eq_getElem?_getD]
    rcases e : (capsTo r.left l r.left.parts.length)[((r.right.parts.take j).filter isStar).length]? with _ | y
    ·simp
    ·exact hcs y (List.mem_of_getElem? e)
   omega
  ·omega
 have hfl:=fillR_len r.right.parts (capsTo r.left l r.left.parts.length)
 have hrest : (Lib.join (if r.right.rest then l.drop r.left.parts.length else []) [47]).length ≤ 300:=by
  split
  ·have:=join_drop_le r.left.parts.length l
   omega
  ·simp [Lib.join,List.intercalate]
 have hj:=join_app_len 550 (if r.right.rest then l.drop r.left.parts.length else []) _ hK
 rw [ht,pathStr,trL]
 simp only [List.length_cons]
 rw [hfl] at hj
 have : r.right.parts.length * (550 + 1) ≤ 12 * 551:=Nat.mul_le_mul h12 (Nat.le_refl _)
 omega

end Go.Proofs.YtnlnclefedohkaaGreatDoor
set_option linter.unusedVariables false
set_option linter.unusedSimpArgs false
namespace Go.Proofs.YtnlnclefedohkaaGreatDoor
open Go Go.RowKit Sy
def bwE (x : Ent) (s : Str) : Option Str:=(fwd x.rule.turn s).filter fun t=>hasS x.left x.hs t
def bwS (es : List Ent) (s : Str) : Option Str:=es.findSome? fun x=>bwE x s
def bwV (es : List Ent) (s : Str) : Value:=.tuple #[.string (bs ((bwS es s).getD [])),.bool (bwS es s).isSome]
def mbV (es : List Ent) (s : Str) : Value:=if (mapE es).2 = 0 then bwV es s else .tuple #[.string (bs []),.bool false]
theorem bwS_hit {es : List Ent} {s t : Str} {k : Nat} {x : Ent} (hk : es[k]? = some x) (hx : bwE x s = some t) (hall : ∀ j q,j < k → es[j]? = some q → bwE q s = none) : bwV es s = .tuple #[.string (bs t),.bool true]:=by
 have hf : bwS es s = some t:=by
  unfold bwS
  obtain ⟨hlt,rfl⟩:=List.getElem?_eq_some_iff.1 hk
  have e : es = es.take k ++ es[k] :: es.drop (k + 1):=by
   rw [List.getElem_cons_drop,List.take_append_drop]
  rw [e,List.findSome?_append,List.findSome?_cons,hx]
  have : (es.take k).findSome? (fun x=>bwE x s) = none:=by
   rw [List.findSome?_eq_none_iff]
   intro q hq
   obtain ⟨j,hj,e2⟩:=List.mem_iff_getElem.1 hq
   rw [List.length_take] at hj
   rw [List.getElem_take] at e2
   exact hall j q (by omega) (by rw [List.getElem?_eq_getElem (by omega),e2])
  rw [this]
  rfl
 unfold bwV
 rw [hf]
 rfl
theorem bwS_miss {es : List Ent} {s : Str} (hall : ∀ j q,j < es.length → es[j]? = some q → bwE q s = none) : bwV es s = .tuple #[.string (bs []),.bool false]:=by
 have hf : bwS es s = none:=by
  unfold bwS
  rw [List.findSome?_eq_none_iff]
  intro q hq
  obtain ⟨j,hj,e2⟩:=List.mem_iff_getElem.1 hq
  exact hall j q hj (by rw [List.getElem?_eq_getElem hj,e2])
 unfold bwV
 rw [hf]
 rfl
theorem bwE_no {x : Ent} {s : Str} (h : fwd x.rule.turn s = none) : bwE x s = none:=by
 unfold bwE
 rw [h]
 rfl
theorem bwE_some {x : Ent} {s t : Str} (h : fwd x.rule.turn s = some t) {v : Bool} (hv : hasS x.left x.hs t = v) : bwE x s = if v then some t else none:=by
 unfold bwE
 rw [h]
 cases v <;> simp [Option.filter,hv]
theorem noneStep {es : List Ent} {s : Str} {k : Nat} {x : Ent} (hk : es[k]? = some x) (hx : bwE x s = none) (h : ∀ j q,j < k → es[j]? = some q → bwE q s = none) : ∀ j q,j < k + 1 → es[j]? = some q → bwE q s = none:=fun j q hj hq=>by
 rcases Nat.lt_or_ge j k with hjk | hjk
 ·exact h j q hjk hq
 ·obtain rfl : j = k:=by omega
  rw [hk] at hq
  exact Option.some.inj hq ▸ hx
set_option maxHeartbeats 4000000 in
theorem mbwd_c (es : List Ent) (s : Str) (n c : Nat) (A : Option Addr) (w : World) (h : EntsA w A es) (hcn : n ≤ c) (hcc : c ≤ 9223372036854775807) (hn : es.length = n) (hsm : ∀ x ∈ es,SmallE x) (hsl : s.length ≤ 300) (hM : MaxL w) :
  Calls Tryz.prog 18 #[.slice A n c,.string (bs s)] w fun e w'=>e = .returned (mbV es s) ∧ Calm w w':=by
 have hl : n ≤ 1048576:=by rw [← hn];exact h.1
 obtain ⟨er,her⟩ : ∃ er,(mapE es).2 = er:=⟨_,rfl⟩
 obtain ⟨w1,hw1⟩ : ∃ w1,w1 = w.alloc (.cells #[.slice A n c] 22):=⟨_,rfl⟩
 have hc1 : Calm w w1:=by rw [hw1];exact (Calm.refl w).alloc _
 have KC:=check1_c es n c w.heap.size A er w1 (h.calm hc1) hcn hcc hsm hn her (by rw [hw1];simp) (by rw [hw1];simp)
 have HV0 : er ≠ 0 → Hid (mbV es s = .tuple #[.string (bs []),.bool false]):=fun h0=>by
  show mbV es s = _
  unfold mbV
  rw [her,if_neg h0]
 have HV1 : er = 0 → Hid (mbV es s = bwV es s ∧ ∀ x ∈ es,ruleErr x.rule = 0 ∧ gErr x.reg = 0):=fun h0=>by
  refine ⟨?_,(mapE_zero (her.trans h0)).1.good⟩
  show mbV es s = _
  unfold mbV
  rw [her,if_pos h0]
 have HE:=Lib.hid h
 have HN:=Lib.hid hn
 have HS:=Lib.hid hsm
 have HM:=Lib.hid hM
 have HW:=Lib.hid hw1
 have HC:=Lib.hid hc1
 have HKC:=Lib.hid KC
 clear h hn hsm hM hw1 hc1 KC her
 go_enter Tryz.func18,Tryz.ntmps18
 by_cases h0 : er = 0
 ·subst h0
  have HV:=HV1 rfl
  clear HV0 HV1
  go_wp2_with fail
  rw [← HW.out]
  refine HKC.out.mono ?_
  rintro e w2 ⟨rfl,hc2⟩
  have HC2 : Hid (Calm w w2):=HC.out.trans hc2
  clear hc2
  go_wp2_with fail
  go_loopw [16] (fun u wr=>∃ k : Nat,k ≤ n ∧ u = .int .i64 k ∧ Hid (∀ j q,j < k → es[j]? = some q → bwE q s = none) ∧ Hid (Calm w wr)) (fun u _=>n - (intOf u).toNat)
  case atStart=>exact ⟨0,Nat.zero_le _,rfl,fun j h hj=>absurd hj (Nat.not_lt_zero _),HC2.out⟩
  case round=>
   obtain ⟨k,hk,rfl,HI,HCr⟩:=hrel
   obtain ⟨wq,rfl⟩ : ∃ wq,wq = wr:=⟨_,rfl⟩
   by_cases hlt : k < n
   ·obtain ⟨b,o,z,rfl,hb,hz,c0,c1,c2,c3,c4,hua⟩:=(HE.out.calm HCr.out).get (k:=k) (by rw [HN.out];exact hlt)
    have hmem:=List.mem_of_getElem? hz
    have hgd:=HV.out.2 z.e hmem
    have hu:=hua.few (HS.out _ hmem) hgd.2
    have hsv:=(HS.out _ hmem).v hgd.1
    obtain ⟨e0,he0⟩ : ∃ e0,z.e = e0:=⟨_,rfl⟩
    have ul:=hu.l
    have ur:=hu.r
    have uh:=hu.h
    rw [he0] at c0 c1 c2 c3 c4 ul ur uh hz hgd hsv
    obtain ⟨nl,hnl⟩ : ∃ nl,e0.left.parts.length = nl:=⟨_,rfl⟩
    obtain ⟨nr,hnr⟩ : ∃ nr,e0.right.parts.length = nr:=⟨_,rfl⟩
    obtain ⟨lr,hlr⟩ : ∃ lr,e0.left.rest = lr:=⟨_,rfl⟩
    obtain ⟨rr,hrr⟩ : ∃ rr,e0.right.rest = rr:=⟨_,rfl⟩
    obtain ⟨hn,hhn⟩ : ∃ hn,e0.hs.length = hn:=⟨_,rfl⟩
    rw [hnl] at c0
    rw [hlr] at c1
    rw [hnr] at c2
    rw [hrr] at c3
    rw [hhn] at c4
    have KG : Hid (∀ W,Calls Tryz.prog 45 #[entV z.LA z.RA z.HA nl z.lc nr z.rc hn z.hc lr rr] W fun e w'=>e = .returned (.agg #[.slice z.LA nl z.lc,.bool lr,.slice z.HA hn z.hc]) ∧ Calm W w'):=fun W=>left_c _ _ _ _ _ _ _ _ _ _ _ W
    have KL : Hid (∀ W,Calls Tryz.prog 22 #[entV z.LA z.RA z.HA nl z.lc nr z.rc hn z.hc lr rr] W fun e w'=>e = .returned (.agg #[.bool false,.slice z.LA nl z.lc,.bool lr,.slice z.RA nr z.rc,.bool rr]) ∧ Calm W w'):=fun W=>line_c _ _ _ _ _ _ _ _ _ _ _ W
    have KH : Hid (∀ W t v,Calm wq W → t.length ≤ 10000 → hasS e0.left e0.hs t = v → Calls Tryz.prog 44 #[.agg #[.slice z.LA nl z.lc,.bool lr,.slice z.HA hn z.hc],.string (bs t)] W fun e w'=>e = .returned (.bool v) ∧ Calm W w'):=fun W t v hW ht hv=>
     has_g e0 t v z.LA nl z.lc z.HA hn z.hc lr W ht (ul.calm hW).r ul.room ul.cap (uh.calm hW) (HM.out.calm (HCr.out.trans hW)) hgd.2 hv hnl hhn hlr
    have KF : Hid (∀ W,Calm wq W → Calls Tryz.prog 48 #[.agg #[.bool false,.slice z.LA nl z.lc,.bool lr,.slice z.RA nr z.rc,.bool rr],.string (bs s)] W fun e w'=>e = .returned (fwdV e0.rule.turn s) ∧ Calm W w'):=fun W hW=>by
     have:=bwd_c e0.rule ⟨z.LA,z.lc,z.RA,z.rc⟩ s W ⟨(ul.calm hW).r.toU,(ur.calm hW).r.toU,ul.room,ur.room,ul.cap,ur.cap⟩ hsv (by omega) (HM.out.calm (HCr.out.trans hW))
     unfold ruleV Ent.rule at this
     simp only [hnl,hnr,hlr,hrr] at this
     exact this
    have HFl : Hid (∀ t,fwd e0.rule.turn s = some t → t.length ≤ 8000):=fun t ht=>fwd_len hsv.turn hsl ht
    have HZ:=Lib.hid hz
    obtain ⟨B,hB⟩ : ∃ B,wq.heap.size = B:=⟨_,rfl⟩
    obtain ⟨wb,hwb⟩ : ∃ wb,wb = wq.alloc (.cells #[.slice z.LA nl z.lc,.bool lr,.slice z.RA nr z.rc,.bool rr,.slice z.HA hn z.hc] 43):=⟨_,rfl⟩
    have hf : FiveB wb B (.slice z.LA nl z.lc) (.bool lr) (.slice z.RA nr z.rc) (.bool rr) (.slice z.HA hn z.hc):=by
     rw [hwb,← hB]
     exact FiveB.new wq _ _ _ _ _ _
    have hcb : Calm wq wb:=by
     show Below _ _ _
     rw [hwb]
     exact (Calm.refl _).alloc _
    have HF:=Lib.hid hf
    have HCb:=Lib.hid hcb
    have HWb:=Lib.hid hwb
    have HBB:=Lib.hid hB
    clear hz he0 hu hua ul ur uh hnl hnr hlr hrr hhn hf hcb hwb hB hmem hgd hsv
    obtain ⟨ft,hft⟩ : ∃ ft,fwd e0.rule.turn s = ft:=⟨_,rfl⟩
    have HFt:=Lib.hid hft
    unfold fwdV at KF
    rw [hft] at KF
    clear hft
    go_wp2_with fail
    rw [← HWb.out]
    refine (KL.out wb).mono ?_
    rintro e w3 ⟨rfl,hc3⟩
    have HC3 : Hid (Calm wb w3):=hc3
    rw [HBB.out]
    clear c0 c1 c2 c3 c4 hc3
    go_wp2_with fail
    refine (KF.out w3 (HCb.out.trans HC3.out)).mono ?_
    rintro e w4 ⟨rfl,hc4⟩
    have HC4 : Hid (Calm wb w4):=HC3.out.trans hc4
    clear hc4
    cases ft with
    |none=>
     have HNo : Hid (bwE e0 s = none):=bwE_no HFt.out
     go_wp2_with fail
     go_roundw
     case rel=>exact ⟨k + 1,by omega,by go_num,noneStep HZ.out HNo.out HI.out,HCr.out.trans (HCb.out.trans HC4.out)⟩
     case measure=>simp [intOf];omega
    |some t=>
     obtain ⟨v,hv⟩ : ∃ v,hasS e0.left e0.hs t = v:=⟨_,rfl⟩
     have HBw : Hid (bwE e0 s = if v then some t else none):=bwE_some HFt.out hv
     have KH2:=Lib.hid (fun W (hW : Calm wq W)=>KH.out W t v hW (by have:=HFl.out t HFt.out;omega) hv)
     have f3:=HF.out.calm HC4.out
     have c0:=f3.c0
     have c1:=f3.c1
     have c2:=f3.c2
     have c3:=f3.c3
     have c4:=f3.c4
     clear f3 hv
     simp only [Option.getD_some,Option.isSome_some]
     go_wp2_with fail
     refine (KG.out w4).mono ?_
     rintro e w5 ⟨rfl,hc5⟩
     have HC5 : Hid (Calm wq w5):=HCb.out.trans (HC4.out.trans hc5)
     clear hc5 c0 c1 c2 c3 c4
     go_wp2_with fail
     refine (KH2.out w5 HC5.out).mono ?_
     rintro e w6 ⟨rfl,hc6⟩
     have HC6 : Hid (Calm w w6):=HCr.out.trans (HC5.out.trans hc6)
     clear hc6
     cases v with
     |true=>
      have HBy : Hid (mbV es s = .tuple #[.string (bs t),.bool true]):=HV.out.1.trans (bwS_hit HZ.out HBw.out HI.out)
      go_wp2_with fail
      go_ret2
      exact ⟨by rw [HBy.out];rfl,HC6.out⟩
     |false=>
      have HNo : Hid (bwE e0 s = none):=HBw.out
      go_wp2_with fail
      go_roundw
      case rel=>exact ⟨k + 1,by omega,by go_num,noneStep HZ.out HNo.out HI.out,HC6.out⟩
      case measure=>simp [intOf];omega
   ·obtain rfl : k = n:=by omega
    have HBy : Hid (mbV es s = .tuple #[.string (bs []),.bool false]):=HV.out.1.trans (bwS_miss (fun j q hj hq=>HI.out j q (by rw [HN.out] at hj;exact hj) hq))
    go_wp2_with fail
    go_ret2
    exact ⟨by rw [HBy.out];rfl,HCr.out⟩
 ·have HV:=HV0 h0
  have hb : (er != 0) = true:=by simpa using h0
  clear HV0 HV1 h0
  go_wp2_with fail
  rw [← HW.out]
  refine HKC.out.mono ?_
  rintro e w2 ⟨rfl,hc2⟩
  go_wp2_with fail
  go_ret2
  exact ⟨by rw [HV.out];rfl,HC.out.trans hc2⟩
end Go.Proofs.YtnlnclefedohkaaGreatDoor
set_option linter.unusedVariables false
set_option linter.unusedSimpArgs false
namespace Go.Proofs.YtnlnclefedohkaaGreatDoor
open Go Go.RowKit Sy

theorem inv_put {x : Ent} {ks : List Pat} (h : rightHs x.rule x.hs = some ks) (h64 : ks.length ≤ 64) : putH ⟨false,x.right,x.left⟩ ks = some (invOf x):=by
 have h1:=redL_len x.right ks
 unfold putH invOf rightG
 rw [h]
 show (if 64 < (redL x.right ks).length then _ else _) = _
 rw [if_neg (by omega)]
 simp only [Option.map_some]
 split <;> rfl
set_option maxHeartbeats 8000000 in
theorem minv_c (es : List Ent) (n c : Nat) (A : Option Addr) (w : World) (h : EntsA w A es) (hcn : n ≤ c) (hcc : c ≤ 9223372036854775807) (hn : es.length = n) (hsm : ∀ x ∈ es,SmallE x) :
  Calls Tryz.prog 17 #[.slice A n c] w fun e w'=>EntOut (invE es).1 (invE es).2 w.heap.size e w' ∧ Calm w w':=by
 have hl : n ≤ 1048576:=by rw [← hn];exact h.1
 obtain ⟨er,her⟩ : ∃ er,(mapE es).2 = er:=⟨_,rfl⟩
 obtain ⟨w1,hw1⟩ : ∃ w1,w1 = w.alloc (.cells #[.slice A n c] 22):=⟨_,rfl⟩
 have hc1 : Calm w w1:=by rw [hw1];exact (Calm.refl w).alloc _
 have KC:=check1_c es n c w.heap.size A er w1 (h.calm hc1) hcn hcc hsm hn her (by rw [hw1];simp) (by rw [hw1];simp)
 have HV0 : er ≠ 0 → Hid (invE es = ([],er)):=fun h0=>by
  show invE es = _
  unfold invE
  rw [her,if_pos h0]
 have HV1 : er = 0 → Hid (invE es = (es.filterMap invOf,0) ∧ Mapping es):=fun h0=>by
  refine ⟨?_,(mapE_zero (her.trans h0)).1⟩
  show invE es = _
  unfold invE
  rw [her,if_neg (by simpa using h0)]
 have HE:=Lib.hid h
 have HN:=Lib.hid hn
 have HS:=Lib.hid hsm
 have HW:=Lib.hid hw1
 have HC:=Lib.hid hc1
 have HKC:=Lib.hid KC
 clear h hn hsm hw1 hc1 KC her
 go_enter Tryz.func17,Tryz.ntmps17
 by_cases h0 : er = 0
 ·subst h0
  have HV:=HV1 rfl
  clear HV0 HV1
  go_wp2_with fail
  rw [← HW.out]
  refine HKC.out.mono ?_
  rintro e w2 ⟨rfl,hc2⟩
  obtain ⟨G,hG⟩ : ∃ G,w2.heap.size = G:=⟨_,rfl⟩
  obtain ⟨w3,hw3⟩ : ∃ w3,w3 = w2.alloc (.cells #[.slice none 0 0,.bool false] 47):=⟨_,rfl⟩
  have HCol : Hid (ColA w w3 G []):=by
   show ColA w w3 G []
   rw [hw3,← hG]
   exact colA_new (HC.out.trans hc2)
  have HW3:=Lib.hid hw3
  have HG:=Lib.hid hG
  clear hc2 hw3 hG
  go_wp2_with fail
  rw [← HW3.out,HG.out]
  go_loopw [19] (fun u wr=>∃ k : Nat,k ≤ n ∧ u = .int .i64 k ∧ Hid (ColA w wr G ((es.take k).filterMap invOf))) (fun u _=>n - (intOf u).toNat)
  case atStart=>exact ⟨0,Nat.zero_le _,rfl,HCol.out⟩
  case round=>
   obtain ⟨k,hk,rfl,HCr⟩:=hrel
   obtain ⟨wq,rfl⟩ : ∃ wq,wq = wr:=⟨_,rfl⟩
   by_cases hlt : k < n
   ·obtain ⟨b,o,z,rfl,hb,hz,c0,c1,c2,c3,c4,hua⟩:=(HE.out.calm HCr.out.calm).get (k:=k) (by rw [HN.out];exact hlt)
    have hmem:=List.mem_of_getElem? hz
    have hgd:=HV.out.2.good z.e hmem
    have hss:=HS.out _ hmem
    have hu:=hua.few hss hgd.2
    obtain ⟨g,hgr⟩:=HV.out.2.right z.e hmem
    obtain ⟨ks,hks,_⟩:=Option.map_eq_some_iff.1 hgr
    have hkl : ks.length ≤ 64:=by
     have h1:=(rightHs_good hks).2
     have h2 : z.e.reg.hs.length ≤ 64:=(gErr_zero hgd.2).2.2
     have e : z.e.reg.hs = z.e.hs:=rfl
     rw [e] at h2
     omega
    have hkg:=(rightHs_good hks).1
    have hpt:=inv_put hks hkl
    have htf : (es.take (k + 1)).filterMap invOf = (es.take k).filterMap invOf ++ (invOf z.e).toList:=take_filterMap hz
    have htw : Sy.Twin z.e.left z.e.right:=ruleErr_twin.1 hgd.1
    obtain ⟨nl,hnl⟩ : ∃ nl,z.e.left.parts.length = nl:=⟨_,rfl⟩
    obtain ⟨nr,hnr⟩ : ∃ nr,z.e.right.parts.length = nr:=⟨_,rfl⟩
    obtain ⟨lr,hlr⟩ : ∃ lr,z.e.left.rest = lr:=⟨_,rfl⟩
    obtain ⟨rr,hrr⟩ : ∃ rr,z.e.right.rest = rr:=⟨_,rfl⟩
    obtain ⟨hn,hhn⟩ : ∃ hn,z.e.hs.length = hn:=⟨_,rfl⟩
    obtain ⟨m,hm⟩ : ∃ m,ks.length = m:=⟨_,rfl⟩
    rw [hnl] at c0
    rw [hlr] at c1
    rw [hnr] at c2
    rw [hrr] at c3
    rw [hhn] at c4
    have KR : Hid (∀ W,Calm wq W → Calls Tryz.prog 47 #[entV z.LA z.RA z.HA nl z.lc nr z.rc hn z.hc lr rr] W fun e w'=>(∃ KA kc,e = .returned (.tuple #[.agg #[.slice z.RA nr z.rc,.bool rr,.slice KA m kc],.int .i64 0]) ∧ PatsN w' W.heap.size KA kc ks) ∧ Calm W w'):=fun W hW=>by
     have:=right_c z nl nr hn lr rr z.HA W (hu.calm hW) hss hgd.1 hgd.2 hnl hnr hhn hlr hrr rfl
     unfold RightEnd at this
     rw [hks] at this
     simp only [hnr,hrr,hm] at this
     exact this
    have KP : Hid (∀ W KA kc B,Calm wq W → PatsN W B KA kc ks → Calls Tryz.prog 25 #[.pointer (some ⟨G,0,none⟩),.agg #[.bool false,.slice z.RA nr z.rc,.bool rr,.slice z.LA nl z.lc,.bool lr],.slice KA m kc] W fun e w'=>e = .returned (.int .i64 0) ∧ ColA w w' G ((es.take k).filterMap invOf ++ (invOf z.e).toList)):=fun W KA kc B hW hP=>by
     have huW:=hu.calm hW
     have:=put_k w wq W G ((es.take k).filterMap invOf) ⟨false,z.e.right,z.e.left⟩ ks ⟨z.RA,z.rc,z.LA,z.lc⟩ false nr nl m kc rr lr KA HCr.out hW huW.r huW.l hnr hnl hrr hlr (fun W2 hW2=>mreduce_c z.e.right ks z.RA z.rc KA nr m kc rr W2 (huW.r.calm hW2) ((hP.calm hW2).reads (by omega)) hnr hrr hm htw.rp hkg)
     exact this.mono fun e w' hp=>hp.1.some hpt
    have HTf:=Lib.hid htf
    obtain ⟨B,hB⟩ : ∃ B,wq.heap.size = B:=⟨_,rfl⟩
    obtain ⟨wb,hwb⟩ : ∃ wb,wb = wq.alloc (.cells #[.slice z.LA nl z.lc,.bool lr,.slice z.RA nr z.rc,.bool rr,.slice z.HA hn z.hc] 43):=⟨_,rfl⟩
    have hf : FiveB wb B (.slice z.LA nl z.lc) (.bool lr) (.slice z.RA nr z.rc) (.bool rr) (.slice z.HA hn z.hc):=by
     rw [hwb,← hB]
     exact FiveB.new wq _ _ _ _ _ _
    have hcb : Calm wq wb:=by
     show Below _ _ _
     rw [hwb]
     exact (Calm.refl _).alloc _
    have HF:=Lib.hid hf
    have HCb:=Lib.hid hcb
    have HWb:=Lib.hid hwb
    have HBB:=Lib.hid hB
    clear hz hu hua hnl hnr hlr hrr hhn hf hcb hwb hB hmem hgd hss hgr hks hkl hkg hpt htf htw hm
    go_wp2_with fail
    rw [← HWb.out]
    refine (KR.out wb HCb.out).mono ?_
    rintro e w3 ⟨⟨KA,kc,rfl,hP⟩,hc3⟩
    rw [HBB.out]
    clear c0 c1 c2 c3 c4
    obtain ⟨w4,hw4⟩ : ∃ w4,w4 = w3.alloc (.cells #[.slice z.RA nr z.rc,.bool rr,.slice KA m kc] 68):=⟨_,rfl⟩
    have hc34 : Calm w3 w4:=by
     show Below _ _ _
     rw [hw4]
     exact (Calm.refl _).alloc _
    have hf3:=HF.out.calm hc3
    have c0:=hf3.c0
    have c1:=hf3.c1
    have c2:=hf3.c2
    have c3:=hf3.c3
    have hlt3:=hf3.lt
    have HP4:=Lib.hid (hP.calm hc34)
    have HC4 : Hid (Calm wq w4):=HCb.out.trans (Calm.trans hc3 hc34)
    have HW4:=Lib.hid hw4
    clear hP hc3 hc34 hw4 hf3
    go_wp2_with fail
    rw [← HW4.out]
    refine (KP.out w4 KA kc _ HC4.out HP4.out).mono ?_
    rintro e w5 ⟨rfl,hcol⟩
    have HCol5:=Lib.hid hcol
    clear hcol c0 c1 c2 c3 hlt3
    go_wp2_with fail
    go_roundw
    case rel=>exact ⟨k + 1,by omega,by go_num,by rw [HTf.out];exact HCol5.out⟩
    case measure=>simp [intOf];omega
   ·obtain rfl : k = n:=by omega
    have HRs:=Lib.hid (resultE_a w wq G _ HCr.out)
    have HFin : Hid ((es.take k).filterMap invOf = (invE es).1 ∧ (invE es).2 = 0 ∧ ¬ 32 < ((es.take k).filterMap invOf).length):=by
     have e1 : es.take k = es:=by rw [List.take_of_length_le];rw [HN.out];omega
     rw [HV.out.1,e1]
     refine ⟨rfl,rfl,?_⟩
     have:=List.length_filterMap_le invOf es
     have:=HV.out.2.few
     omega
    go_wp2_with fail
    refine HRs.out.mono ?_
    rintro e w6 ⟨hR,hc6⟩
    have hO:=hR.out
    rw [if_neg HFin.out.2.2,if_neg HFin.out.2.2,HFin.out.1] at hO
    obtain ⟨A6,c6,rfl,r1,r2,r3⟩:=hO
    have HD : Hid (EntOut (invE es).1 (invE es).2 w.heap.size (.returned (.tuple #[.slice A6 (invE es).1.length c6,.int .i64 0])) w6):=by
     rw [HFin.out.2.1]
     exact ⟨A6,c6,rfl,r1,r2,r3⟩
    clear r1 r2 r3 hR
    generalize (invE es).1.length = L6 at HD ⊢
    go_wp2_with fail
    go_ret2
    exact ⟨HD.out,hc6⟩
 ·have HV:=HV0 h0
  have hb : (er != 0) = true:=by simpa using h0
  clear HV0 HV1 h0
  go_wp2_with fail
  rw [← HW.out]
  refine HKC.out.mono ?_
  rintro e w2 ⟨rfl,hc2⟩
  go_wp2_with fail
  go_ret2
  exact ⟨by rw [HV.out];exact entOut_err _ _ _,HC.out.trans hc2⟩
end Go.Proofs.YtnlnclefedohkaaGreatDoor
set_option linter.unusedVariables false
set_option linter.unusedSimpArgs false
namespace Go.Proofs.YtnlnclefedohkaaGreatDoor
open Go Go.RowKit Sy

def exM : List Ent:=[⟨⟨[[100]],true⟩,⟨[[99]],true⟩,[⟨[[100],[42,46,116,109,112]],false⟩]⟩]
theorem exM_inv : invE exM = ([⟨⟨[[99]],true⟩,⟨[[100]],true⟩,[⟨[[99],[42,46,116,109,112]],false⟩]⟩],0):=by decide +kernel
theorem exM_ok : (mapE exM).2 = 0:=by decide +kernel
theorem exM_bwd : bwS exM [47,47,99,47,97] = some [47,47,100,47,97]:=by decide +kernel
theorem exM_small : ∀ x ∈ exM,SmallE x:=fun x hx=>by
 rw [exM,List.mem_singleton] at hx
 subst hx
 exact ⟨by decide,by decide,by decide,by decide,by decide⟩
theorem newm_at {v w' : World} {cs : Array Value} {t : TypeId} {n k : Nat} {x : Value} (hc : Calm (v.alloc (.cells cs t)) w') (hs : v.heap.size = n) (h : cs[k]? = some x) : w'.cell? ⟨n,k,none⟩ = some x:=by
 subst hs
 refine hc.at_ ?_ (by simp)
 rw [cell_of_row _ v.heap.size k _ _ _ (heap_alloc_new v _)]
 exact h
def exMW (w : World) : World:=
 ((((((w.alloc (Obj.cells #[Value.string { data:=#[100] }] 9)).alloc (Obj.cells #[Value.string { data:=#[99] }] 9)).alloc (Obj.cells #[Value.slice (some { block:=w.heap.size,off:=0 }) 1 1,Value.bool true] 40)).alloc
  (Obj.cells #[Value.slice (some { block:=w.heap.size + 1,off:=0 }) 1 1,Value.bool true] 40)).alloc (Obj.cells #[Value.string { data:=#[100] },Value.string { data:=#[42,46,116,109,112] }] 9)).alloc
  (Obj.cells #[Value.slice (some { block:=w.heap.size + 1 + 1 + 1 + 1,off:=0 }) 2 2,Value.bool false] 40)).alloc
  (Obj.cells #[Value.slice (some { block:=w.heap.size,off:=0 }) 1 1,Value.bool true,Value.slice (some { block:=w.heap.size + 1,off:=0 }) 1 1,Value.bool true,Value.slice (some { block:=w.heap.size + 1 + 1 + 1 + 1 + 1,off:=0 }) 1 1] 43)
theorem exMW_calm (w : World) : Calm w (exMW w):=(((((((Calm.refl w).alloc _).alloc _).alloc _).alloc _).alloc _).alloc _).alloc _
theorem exMW_size (w : World) : (exMW w).heap.size = w.heap.size + 7:=by simp [exMW]
theorem exMW_ents (w : World) : EntsA (exMW w) (some ⟨w.heap.size + 1 + 1 + 1 + 1 + 1 + 1,0,none⟩) exM:=by
 refine ⟨by decide,[⟨some ⟨w.heap.size,0,none⟩,1,some ⟨w.heap.size + 1,0,none⟩,1,some ⟨w.heap.size + 1 + 1 + 1 + 1 + 1,0,none⟩,1,⟨⟨[[100]],true⟩,⟨[[99]],true⟩,[⟨[[100],[42,46,116,109,112]],false⟩]⟩⟩],rfl,fun _=>⟨_,0,rfl,by rw [exMW_size];omega,fun k x hk i u hu=>?_⟩,fun z hz=>?_⟩
 ·match k,hk with
  |0,hk=>
   obtain rfl:=Option.some.inj hk
   have key : ∀ i u,(#[Value.slice (some { block:=w.heap.size,off:=0 }) 1 1,Value.bool true,Value.slice (some { block:=w.heap.size + 1,off:=0 }) 1 1,Value.bool true,Value.slice (some { block:=w.heap.size + 1 + 1 + 1 + 1 + 1,off:=0 }) 1 1] : Array Value)[i]? = some u → (exMW w).cell? ⟨w.heap.size + 1 + 1 + 1 + 1 + 1 + 1,i,none⟩ = some u:=fun i u h=>
    newm_at (v:=(((((w.alloc _).alloc _).alloc _).alloc _).alloc _).alloc _) (Calm.refl _) (by simp) h
   rw [show 0 + 0 * 5 + i = i by omega]
   exact key i u (by simpa [encE] using hu)
 ·rw [List.mem_singleton] at hz
  subst hz
  refine ⟨⟨(by show 1 ≤ 1048576;decide),(by show ∀ l ∈ ([[100]] : List Str),l.length ≤ 1048576;decide),fun _=>⟨_,0,rfl,by rw [exMW_size];omega,fun k l hl=>?_⟩⟩,⟨(by show 1 ≤ 1048576;decide),(by show ∀ l ∈ ([[99]] : List Str),l.length ≤ 1048576;decide),fun _=>⟨_,0,rfl,by rw [exMW_size];omega,fun k l hl=>?_⟩⟩,⟨(by show 1 ≤ 1048576;decide),fun _=>⟨_,0,rfl,by rw [exMW_size];omega,fun k p hp=>?_⟩⟩,Nat.le_refl 1,Nat.le_refl 1,Nat.le_refl 1,(by show 1 ≤ 9223372036854775807;omega),(by show 1 ≤ 9223372036854775807;omega),(by show 1 ≤ 9223372036854775807;omega)⟩
  ·rw [Nat.zero_add]
   refine newm_at (v:=w) (((((((Calm.refl _).alloc _).alloc _).alloc _).alloc _).alloc _).alloc _) rfl ?_
   match k,hl with
   |0,hl=>cases hl;rfl
  ·rw [Nat.zero_add]
   refine newm_at (v:=w.alloc _) ((((((Calm.refl _).alloc _).alloc _).alloc _).alloc _).alloc _) (by simp) ?_
   match k,hl with
   |0,hl=>cases hl;rfl
  ·match k,hp with
   |0,hp=>
    obtain rfl:=Option.some.inj hp
    refine ⟨some ⟨w.heap.size + 1 + 1 + 1 + 1,0,none⟩,2,?_,?_,Nat.le_refl 2,(by show 2 ≤ 9223372036854775807;omega),⟨by decide,by decide,fun _=>⟨_,0,rfl,by rw [exMW_size];omega,fun k l hl=>?_⟩⟩⟩
    ·exact newm_at (v:=((((w.alloc _).alloc _).alloc _).alloc _).alloc _) ((Calm.refl _).alloc _) (by simp) rfl
    ·exact newm_at (v:=((((w.alloc _).alloc _).alloc _).alloc _).alloc _) ((Calm.refl _).alloc _) (by simp) rfl
    ·rw [Nat.zero_add]
     refine newm_at (v:=(((w.alloc _).alloc _).alloc _).alloc _) (((Calm.refl _).alloc _).alloc _) (by simp) ?_
     match k,hl with
     |0,hl=>cases hl;rfl
     |1,hl=>cases hl;rfl
structure ExI (w : World) (b o : Nat) (b2 o2 c1 c2 b3 o3 : Nat) : Prop where
 h : w.cell? ⟨b,o + 4,none⟩ = some (.slice (some ⟨b2,o2,none⟩) 1 c1)
 p : w.cell? ⟨b2,o2,none⟩ = some (.slice (some ⟨b3,o3,none⟩) 2 c2)
 s : w.cell? ⟨b3,o3,none⟩ = some (.string ⟨#[99]⟩)
 lt : b < w.heap.size ∧ b2 < w.heap.size ∧ b3 < w.heap.size
theorem ExI.calm {w w' : World} {b o b2 o2 c1 c2 b3 o3 : Nat} (h : ExI w b o b2 o2 c1 c2 b3 o3) (hc : Calm w w') : ExI w' b o b2 o2 c1 c2 b3 o3:=
 ⟨hc.at_ h.h h.lt.1,hc.at_ h.p h.lt.2.1,hc.at_ h.s h.lt.2.2,Nat.lt_of_lt_of_le h.lt.1 hc.size,Nat.lt_of_lt_of_le h.lt.2.1 hc.size,Nat.lt_of_lt_of_le h.lt.2.2 hc.size⟩
theorem exI_of {w' : World} {B : Nat} {e : Ending} (h : EntOut (invE exM).1 (invE exM).2 B e w') : ∃ b o c b2 o2 c1 c2 b3 o3,e = .returned (.tuple #[.slice (some ⟨b,o,none⟩) 1 c,.int .i64 0]) ∧ 1 ≤ c ∧ ExI w' b o b2 o2 c1 c2 b3 o3:=by
 rw [exM_inv] at h
 obtain ⟨A,c,rfl,h1,h2,zs,h3,h4,h5⟩:=h
 have hE : EntsR w' A [⟨⟨[[99]],true⟩,⟨[[100]],true⟩,[⟨[[99],[42,46,116,109,112]],false⟩]⟩]:=⟨zs,h3,h4,fun z hz=>(h5 z hz).u⟩
 obtain ⟨b,o,z,rfl,hb,hz,_,_,_,_,c4,hu⟩:=hE.get (k:=0) (by decide)
 have hze : z.e = ⟨⟨[[99]],true⟩,⟨[[100]],true⟩,[⟨[[99],[42,46,116,109,112]],false⟩]⟩:=(Option.some.inj hz).symm
 have hh:=hu.h
 rw [hze] at hh c4
 obtain ⟨b2,o2,p,Ak,ck,hA2,hb2,hp,d0,_,_,_,hs⟩:=hh.get (k:=0) (by decide)
 have hpe : p = ⟨[[99],[42,46,116,109,112]],false⟩:=(Option.some.inj hp).symm
 subst hpe
 obtain ⟨b3,o3,l,hA3,hb3,hl,_,e0⟩:=hs.get (k:=0) (by decide)
 have hle : l = [99]:=(Option.some.inj hl).symm
 subst hle
 refine ⟨b,o,c,b2,o2,z.hc,ck,b3,o3,rfl,h1,⟨?_,?_,?_,hb,hb2,hb3⟩⟩
 ·rw [hA2] at c4
  simpa using c4
 ·rw [hA3] at d0
  simpa using d0
 ·have : w'.cell? ⟨b3,o3,none⟩ = some (.string (bs [99])):=by simpa using e0
  exact this
set_option maxRecDepth 100000 in
set_option maxHeartbeats 4000000 in
theorem awakeM_c (w : World) (hM : MaxL w) : Calls Tryz.prog 7 #[] w fun e w'=>e = .returned (.bool true) ∧ Calm w w':=by
 have KI : Hid (Calls Tryz.prog 17 #[.slice (some ⟨w.heap.size + 1 + 1 + 1 + 1 + 1 + 1,0,none⟩) 1 1] (exMW w) fun e w'=>(∃ b o c b2 o2 c1 c2 b3 o3,e = .returned (.tuple #[.slice (some ⟨b,o,none⟩) 1 c,.int .i64 0]) ∧ 1 ≤ c ∧ ExI w' b o b2 o2 c1 c2 b3 o3) ∧ Calm (exMW w) w'):=
  (minv_c exM 1 1 _ (exMW w) (exMW_ents w) (Nat.le_refl _) (by decide) rfl exM_small).mono fun e w' ⟨h1,h2⟩=>⟨exI_of h1,h2⟩
 have KB : Hid (∀ W,Calm (exMW w) W → Calls Tryz.prog 18 #[.slice (some ⟨w.heap.size + 1 + 1 + 1 + 1 + 1 + 1,0,none⟩) 1 1,.string ⟨#[47,47,99,47,97]⟩] W fun e w'=>e = .returned (.tuple #[.string ⟨#[47,47,100,47,97]⟩,.bool true]) ∧ Calm W w'):=fun W hW=>by
  have:=mbwd_c exM [47,47,99,47,97] 1 1 _ W ((exMW_ents w).calm hW) (Nat.le_refl _) (by decide) rfl exM_small (by decide) (hM.calm ((exMW_calm w).trans hW))
  unfold mbV at this
  rw [if_pos exM_ok] at this
  unfold bwV at this
  rw [exM_bwd] at this
  exact this
 have HC : Hid (Calm w (exMW w)):=exMW_calm w
 clear hM
 go_enter Tryz.func7,Tryz.ntmps7
 go_wp2_with fail
 refine KI.out.mono ?_
 rintro e w3 ⟨⟨b,o,c,b2,o2,c1,c2,b3,o3,rfl,hc,hx⟩,hc3⟩
 have HX:=Lib.hid hx
 have HC3:=Lib.hid hc3
 clear hx hc3
 go_wp2_with fail
 refine (KB.out w3 HC3.out).mono ?_
 rintro e w4 ⟨rfl,hc4⟩
 have hx4:=HX.out.calm hc4
 have x1:=hx4.h
 have x2:=hx4.p
 have x3:=hx4.s
 clear hx4
 go_wp2_with fail
 go_ret
 exact ⟨rfl,HC.out.trans (HC3.out.trans hc4)⟩
end Go.Proofs.YtnlnclefedohkaaGreatDoor
set_option linter.unusedVariables false
set_option linter.unusedSimpArgs false
namespace Go.Proofs.YtnlnclefedohkaaGreatDoor
open Go Go.RowKit Sy

def patsOf (x : Ent) : List Pat:=x.left :: x.right :: x.hs
def szTo (ps : List Pat) (k : Nat) : Nat:=((ps.take k).map fun p=>p.parts.length).sum
def szE (es : List Ent) (k : Nat) : Nat:=((es.take k).map fun x=>szTo (patsOf x) (patsOf x).length).sum
theorem szTo_succ {ps : List Pat} {k : Nat} {p : Pat} (h : ps[k]? = some p) : szTo ps (k + 1) = szTo ps k + p.parts.length:=by
 obtain ⟨hlt,rfl⟩:=List.getElem?_eq_some_iff.1 h
 rw [szTo,List.take_succ_eq_append_getElem hlt,List.map_append,List.sum_append,szTo]
 simp
theorem szE_succ {es : List Ent} {k : Nat} {x : Ent} (h : es[k]? = some x) : szE es (k + 1) = szE es k + szTo (patsOf x) (patsOf x).length:=by
 obtain ⟨hlt,rfl⟩:=List.getElem?_eq_some_iff.1 h
 rw [szE,List.take_succ_eq_append_getElem hlt,List.map_append,List.sum_append,szE]
 simp
theorem sum_le {α : Type} {f : α → Nat} {b : Nat} : ∀ {l : List α},(∀ x ∈ l,f x ≤ b) → (l.map f).sum ≤ l.length * b
 |[],_=>by simp
 |a :: l,h=>by
  have ih:=sum_le (l:=l) fun x hx=>h x (List.mem_cons_of_mem _ hx)
  have:=h a List.mem_cons_self
  rw [List.map_cons,List.sum_cons,List.length_cons,Nat.add_mul,Nat.one_mul]
  omega
theorem le_sum {α : Type} {f : α → Nat} : ∀ {l : List α} {a : α},a ∈ l → f a ≤ (l.map f).sum
 |b :: l,a,h=>by
  rw [List.map_cons,List.sum_cons]
  rcases List.mem_cons.1 h with rfl | h
  ·omega
  ·have:=le_sum (f:=f) h
   omega
theorem szTo_le {ps : List Pat} {B : Nat} (h : ∀ p ∈ ps,p.parts.length ≤ B) (k : Nat) : szTo ps k ≤ ps.length * B:=by
 have h1 : szTo ps k ≤ (ps.take k).length * B:=sum_le (f:=fun p : Pat=>p.parts.length) fun p hp=>h p (List.mem_of_mem_take hp)
 have h2 : (ps.take k).length ≤ ps.length:=by rw [List.length_take];omega
 have h3:=Nat.mul_le_mul_right B h2
 omega
theorem szE_le {es : List Ent} {B : Nat} (h : ∀ x ∈ es,szTo (patsOf x) (patsOf x).length ≤ B) (k : Nat) : szE es k ≤ es.length * B:=by
 have h1 : szE es k ≤ (es.take k).length * B:=sum_le (f:=fun x : Ent=>szTo (patsOf x) (patsOf x).length) fun x hx=>h x (List.mem_of_mem_take hx)
 have h2 : (es.take k).length ≤ es.length:=by rw [List.length_take];omega
 have h3:=Nat.mul_le_mul_right B h2
 omega
def SmallMEnd (es : List Ent) (e : Ending) : Prop:=∃ b,e = .returned (.bool b) ∧ (b = true → es.length ≤ 40 ∧ ∀ x ∈ es,SizeE 60 x)
theorem small_of {es : List Ent} (hn : szE es es.length ≤ 300) (hs : ∀ j x,j < es.length → es[j]? = some x → ∀ p ∈ patsOf x,∀ s ∈ p.parts,s.length ≤ 60) : ∀ x ∈ es,SizeE 60 x:=fun x hx=>by
 have h1 : szTo (patsOf x) (patsOf x).length ≤ szE es es.length:=by
  rw [szE,List.take_length]
  exact le_sum (f:=fun x : Ent=>szTo (patsOf x) (patsOf x).length) hx
 have h2 : ∀ p ∈ patsOf x,p.parts.length ≤ 300:=fun p hp=>by
  have : p.parts.length ≤ szTo (patsOf x) (patsOf x).length:=by
   rw [szTo,List.take_length]
   exact le_sum (f:=fun p : Pat=>p.parts.length) hp
  omega
 obtain ⟨j,hj,he⟩:=List.mem_iff_getElem.1 hx
 have h3:=hs j x hj (by rw [List.getElem?_eq_getElem hj,he])
 exact ⟨h2 _ List.mem_cons_self,h3 _ List.mem_cons_self,h2 _ (List.mem_cons_of_mem _ List.mem_cons_self),h3 _ (List.mem_cons_of_mem _ List.mem_cons_self),fun p hp=>⟨h2 _ (List.mem_cons_of_mem _ (List.mem_cons_of_mem _ hp)),h3 _ (List.mem_cons_of_mem _ (List.mem_cons_of_mem _ hp))⟩⟩
theorem own_lit2 {w : World} (x y : NewP) {n m : Nat} {r q : Bool} (h1 : x.p.parts.length = n) (h2 : y.p.parts.length = m) (h3 : x.p.rest = r) (h4 : y.p.rest = q) : OwnX encP 2 40 w (w.alloc (.cells #[.slice x.A n x.c,.bool r,.slice y.A m y.c,.bool q] 40)) (.slice (some ⟨w.heap.size,0,none⟩) 2 2) [x,y]:=by
 subst h1 h2 h3 h4
 exact ⟨(Calm.refl w).alloc _,by
  have:=World.ownsRow_lit (base:=w.heap.size) (e:=40) (size:=2) w #[.slice x.A x.p.parts.length x.c,.bool x.p.rest,.slice y.A y.p.parts.length y.c,.bool y.p.rest] 2 (Nat.le_refl _) (by decide) rfl
  simpa [encs,encP] using this⟩
theorem len2 (a b : NewP) {zs : List NewP} {n : Nat} (h : zs.length = n) : ([a,b] ++ zs).length = n + 2:=by
 subst h
 rfl
theorem OwnX.shapeP {w0 w : World} {v : Value} {l : List NewP} (h : OwnX encP 2 40 w0 w v l) : ∃ A c,v = .slice A l.length c ∧ l.length ≤ c ∧ c ≤ 9223372036854775807 ∧ ReadX encP 2 w A l:=by
 rcases h.row encP_len with ⟨rfl,rfl⟩ | ⟨g,c,rfl,h1,h2,_,hr⟩
 ·exact ⟨none,0,rfl,Nat.le_refl _,by omega,fun h=>absurd rfl h⟩
 ·exact ⟨_,c,rfl,h1,h2,fun _=>⟨g,0,rfl,hr.lt,fun k x hk i u hu=>hr.cell k x hk i u hu⟩⟩
theorem ReadX.getP {w : World} {A : Option Addr} {l : List NewP} (h : ReadX encP 2 w A l) {k : Nat} (hk : k < l.length) : ∃ (b o : Nat) (y : NewP),A = some ⟨b,o,none⟩ ∧ b < w.heap.size ∧ l[k]? = some y ∧ w.cell? ⟨b,o + k * 2,none⟩ = some (.slice y.A y.p.parts.length y.c) ∧ w.cell? ⟨b,o + k * 2 + 1,none⟩ = some (.bool y.p.rest):=by
 obtain ⟨b,o,hA,hb,hc⟩:=h (fun e=>by rw [e] at hk;simp at hk)
 have hz:=List.getElem?_eq_getElem hk
 exact ⟨b,o,l[k],hA,hb,hz,hc k _ hz 0 _ rfl,hc k _ hz 1 _ rfl⟩
set_option maxHeartbeats 8000000 in
theorem smallM_c (es : List Ent) (n c : Nat) (A : Option Addr) (w : World) (h : EntsA w A es) (hcn : n ≤ c) (hcc : c ≤ 9223372036854775807) (hn : es.length = n) :
  Calls Tryz.prog 6 #[.slice A n c] w fun e w'=>SmallMEnd es e ∧ Calm w w':=by
 have hl : n ≤ 1048576:=by rw [← hn];exact h.1
 have hall : ∀ x ∈ es,(patsOf x).length ≤ 1048578 ∧ ∀ p ∈ patsOf x,p.parts.length ≤ 1048576:=fun x hx=>by
  obtain ⟨_,zs,rfl,_,h3⟩:=h
  obtain ⟨z,hz,rfl⟩:=List.mem_map.1 hx
  have hz2:=h3 z hz
  refine ⟨by have:=hz2.h.len;simp only [patsOf,List.length_cons];omega,fun p hp=>?_⟩
  rcases List.mem_cons.1 hp with rfl | hp
  ·exact hz2.l.len
  ·rcases List.mem_cons.1 hp with rfl | hp
   ·exact hz2.r.len
   ·obtain ⟨i,hi,he⟩:=List.mem_iff_getElem.1 hp
    obtain ⟨_,_,q,_,_,_,_,hq,_,_,_,_,h5⟩:=hz2.h.get hi
    rw [List.getElem?_eq_getElem hi,he] at hq
    cases hq
    exact h5.len
 have hB : ∀ x ∈ es,∀ j,szTo (patsOf x) j ≤ 1099513724928:=fun x hx j=>by
  have h2:=hall x hx
  have h3:=szTo_le h2.2 j
  omega
 have HSz : Hid (∀ k,szE es k ≤ 1152923703630102528):=fun k=>by
  have h1:=szE_le (fun x hx=>hB x hx _) k
  have h2:=h.1
  omega
 have HSt:=Lib.hid hB
 have HE:=Lib.hid h
 have HN:=Lib.hid hn
 have HAll:=Lib.hid hall
 clear h hn hall hB
 go_enter Tryz.func6,Tryz.ntmps6
 go_wp2_with fail
 go_loopw [3,12] (fun v u wr=>∃ k : Nat,k ≤ n ∧ u = .int .i64 k ∧ v = .int .i64 (szE es k : Nat) ∧ Hid (Calm w wr) ∧ Hid (∀ j x,j < k → es[j]? = some x → ∀ p ∈ patsOf x,∀ s ∈ p.parts,s.length ≤ 60)) (fun _ u _=>n - (intOf u).toNat)
 case atStart=>exact ⟨0,Nat.zero_le _,rfl,by simp [szE],Calm.refl _,fun j x hj=>absurd hj (Nat.not_lt_zero _)⟩
 case round=>
  obtain ⟨k,hk,rfl,rfl,HCr,HF⟩:=hrel
  obtain ⟨wq,rfl⟩ : ∃ wq,wq = wr:=⟨_,rfl⟩
  by_cases hlt : k < n
  ·obtain ⟨b,o,z,rfl,hb,hz,c0,c1,c2,c3,c4,hu⟩:=(HE.out.calm HCr.out).get (k:=k) (by rw [HN.out];exact hlt)
   obtain ⟨nl,hnl⟩ : ∃ nl,z.e.left.parts.length = nl:=⟨_,rfl⟩
   obtain ⟨nr,hnr⟩ : ∃ nr,z.e.right.parts.length = nr:=⟨_,rfl⟩
   obtain ⟨lr,hlr⟩ : ∃ lr,z.e.left.rest = lr:=⟨_,rfl⟩
   obtain ⟨rr,hrr⟩ : ∃ rr,z.e.right.rest = rr:=⟨_,rfl⟩
   obtain ⟨hn,hhn⟩ : ∃ hn,z.e.hs.length = hn:=⟨_,rfl⟩
   rw [hnl] at c0
   rw [hlr] at c1
   rw [hnr] at c2
   rw [hrr] at c3
   rw [hhn] at c4
   obtain ⟨zs,hzs,hX,hzu⟩:=hu.h.places
   have hzl : zs.length = hn:=by rw [← hhn,← hzs,List.length_map]
   have hhl : hn ≤ 1048576:=by rw [← hhn];exact hu.h.len
   have HX : Hid (∀ W,Calm wq W → ReadX encP 2 W z.HA zs):=fun W hW=>hX.calm hW
   have HP : Hid (patsOf z.e = ((⟨z.LA,z.lc,z.e.left⟩ : NewP) :: (⟨z.RA,z.rc,z.e.right⟩ : NewP) :: zs).map (·.p)):=by
    show patsOf z.e = _
    rw [List.map_cons,List.map_cons,hzs]
    rfl
   have HU : Hid (∀ y ∈ ((⟨z.LA,z.lc,z.e.left⟩ : NewP) :: (⟨z.RA,z.rc,z.e.right⟩ : NewP) :: zs),y.p.parts.length ≤ y.c ∧ y.c ≤ 9223372036854775807 ∧ StrsU wq y.A y.p.parts):=fun y hy=>by
    rcases List.mem_cons.1 hy with rfl | hy
    ·exact ⟨hu.lroom,hu.lcap,hu.l⟩
    ·rcases List.mem_cons.1 hy with rfl | hy
     ·exact ⟨hu.rroom,hu.rcap,hu.r⟩
     ·exact hzu y hy
   have HZ:=Lib.hid hz
   have HLit : Hid (OwnX encP 2 40 (wq.alloc (.cells #[.slice z.LA nl z.lc,.bool lr,.slice z.RA nr z.rc,.bool rr,.slice z.HA hn z.hc] 43)) ((wq.alloc (.cells #[.slice z.LA nl z.lc,.bool lr,.slice z.RA nr z.rc,.bool rr,.slice z.HA hn z.hc] 43)).alloc (.cells #[.slice z.LA nl z.lc,.bool lr,.slice z.RA nr z.rc,.bool rr] 40)) (.slice (some ⟨wq.heap.size + 1,0,none⟩) 2 2) [⟨z.LA,z.lc,z.e.left⟩,⟨z.RA,z.rc,z.e.right⟩]):=by
    have:=own_lit2 (w:=wq.alloc (.cells #[.slice z.LA nl z.lc,.bool lr,.slice z.RA nr z.rc,.bool rr,.slice z.HA hn z.hc] 43)) ⟨z.LA,z.lc,z.e.left⟩ ⟨z.RA,z.rc,z.e.right⟩ hnl hnr hlr hrr
    rw [World.size_alloc] at this
    exact this
   have HSk:=HSz.out k
   have HZl:=Lib.hid hzl
   have HTs : Hid (∀ j,szTo (patsOf z.e) j ≤ 1099513724928):=HSt.out z.e (List.mem_of_getElem? hz)
   have HPl : Hid (∀ y ∈ ((⟨z.LA,z.lc,z.e.left⟩ : NewP) :: (⟨z.RA,z.rc,z.e.right⟩ : NewP) :: zs),y.p.parts.length ≤ 1048576):=fun y hy=>(HU.out y hy).2.2.len
   clear hz hu hzs hX hzu hnl hnr hlr hrr hhn hzl
   go_wp2_with (at_builtin;go_loud (refine wpList_append_xs (enc:=encP) (K:=2) (T:=40) Tryz.underlying41 info_patE rfl (by decide) (by decide) encP_len encP_one rfl (.tmp 20) (.tmp 22) rfl _ _ [⟨z.LA,z.lc,z.e.left⟩,⟨z.RA,z.rc,z.e.right⟩] zs rfl HLit.out _ hn z.hc rfl HZl.out (HX.out _ (((Calm.refl _).alloc _).alloc _)) (by show 2 + hn ≤ 2000000;omega) ?_;intro v5 w5 hown5 hg5;obtain ⟨A5,c5,rfl,h51,h52,hX5⟩:=hown5.shapeP;have hc5 : Calm wq w5:=Calm.trans ((Calm.refl _).alloc _) hown5.calm;have hl5 : ([⟨z.LA,z.lc,z.e.left⟩,⟨z.RA,z.rc,z.e.right⟩] ++ zs : List NewP).length = hn + 2:=len2 _ _ HZl.out;rw [hl5] at h51 ⊢;clear hl5 hown5 hg5))
   have HX5:=Lib.hid hX5
   have HC5:=Lib.hid hc5
   clear hX5 hc5 c0 c1 c2 c3 c4
   obtain ⟨S0,hS0⟩ : ∃ S0,szE es k = S0:=⟨_,rfl⟩
   rw [hS0] at HSk ⊢
   go_loopw [3,25] (fun v u wp=>∃ j T : Nat,j ≤ hn + 2 ∧ u = .int .i64 j ∧ v = .int .i64 T ∧ T = S0 + szTo (patsOf z.e) j ∧ Hid (Calm w5 wp) ∧ Hid (∀ i p,i < j → (patsOf z.e)[i]? = some p → ∀ s ∈ p.parts,s.length ≤ 60)) (fun _ u _=>hn + 2 - (intOf u).toNat)
   case atStart=>exact ⟨0,S0,Nat.zero_le _,rfl,rfl,by simp [szTo],Calm.refl _,fun j x hj=>absurd hj (Nat.not_lt_zero _)⟩
   case round=>
    obtain ⟨j,T,hj,rfl,rfl,hT,HCj,HG⟩:=hrel
    obtain ⟨wp,rfl⟩ : ∃ wp,wp = wr:=⟨_,rfl⟩
    by_cases hlt2 : j < hn + 2
    ·obtain ⟨b5,o5,y,rfl,hb5,hy,d0,d1⟩:=(HX5.out.calm HCj.out).getP (k:=j) (by rw [List.length_append,HZl.out];simp only [List.length_cons,List.length_nil] <;> omega)
     have hyU:=HU.out y (List.mem_of_getElem? hy)
     have HYU : Hid (StrsU wp y.A y.p.parts):=hyU.2.2.calm (HC5.out.trans HCj.out)
     have hyc:=hyU.1
     have hycc:=hyU.2.1
     have hyl:=hyU.2.2.len
     have HY : Hid ((patsOf z.e)[j]? = some y.p):=by
      show _ = _
      rw [HP.out,List.getElem?_map]
      show Option.map _ (([⟨z.LA,z.lc,z.e.left⟩,⟨z.RA,z.rc,z.e.right⟩] ++ zs : List NewP)[j]?) = _
      rw [hy]
      rfl
     obtain ⟨pn,hpn⟩ : ∃ pn,y.p.parts.length = pn:=⟨_,rfl⟩
     rw [hpn] at d0 hyc hyl
     have HPn:=Lib.hid hpn
     have hTb:=HTs.out j
     clear hy hyU hpn
     go_wp2_with fail
     go_loopw [37] (fun u wr=>∃ i : Nat,i ≤ pn ∧ u = .int .i64 i ∧ Hid (Calm wp wr) ∧ Hid (∀ q s,q < i → y.p.parts[q]? = some s → s.length ≤ 60)) (fun u _=>pn - (intOf u).toNat)
     case atStart=>exact ⟨0,Nat.zero_le _,rfl,(Calm.refl _).alloc _,fun q s hq=>absurd hq (Nat.not_lt_zero _)⟩
     case round=>
      obtain ⟨i,hi,rfl,HCi,HQ⟩:=hrel
      by_cases hlt3 : i < pn
      ·obtain ⟨b2,o2,l,hAy,hb2,hl2,hll,hcl⟩:=(HYU.out.calm HCi.out).get (k:=i) (by rw [HPn.out];exact hlt3)
       have HL:=Lib.hid hl2
       clear hl2 d0 d1
       rw [hAy]
       by_cases h60 : l.length ≤ 60
       ·go_wp2
        go_roundw
        case rel=>
         refine ⟨i + 1,by omega,by go_num,HCi.out,fun q s hq hs=>?_⟩
         by_cases e : q = i
         ·subst e
          rw [HL.out] at hs
          cases hs
          exact h60
         ·exact HQ.out q s (by omega) hs
        case measure=>simp [intOf];omega
       ·go_wp2
        go_ret
        exact ⟨⟨false,rfl,fun h=>by cases h⟩,HCr.out.trans (HC5.out.trans (HCj.out.trans HCi.out))⟩
      ·obtain rfl : i = pn:=by omega
       clear d0 d1
       go_wp2
       go_roundw
       case rel=>
        refine ⟨j + 1,T + i,by omega,by go_num,by go_num,by rw [szTo_succ HY.out,HPn.out];omega,HCj.out.trans HCi.out,fun q p hq hp=>?_⟩
        by_cases e : q = j
        ·subst e
         rw [HY.out] at hp
         cases hp
         intro s hm
         obtain ⟨i2,hi2,he2⟩:=List.mem_iff_getElem.1 hm
         exact HQ.out i2 s (by rw [← HPn.out];exact hi2) (by rw [List.getElem?_eq_getElem hi2,he2])
        ·exact HG.out q p (by omega) hp
       case measure=>simp [intOf];omega
    ·obtain rfl : j = hn + 2:=by omega
     go_wp2
     go_roundw
     case rel=>
      have hpl : (patsOf z.e).length = hn + 2:=by
       rw [HP.out,List.length_map]
       simp only [List.length_cons]
       rw [HZl.out]
      refine ⟨k + 1,by omega,by go_num,by rw [szE_succ HZ.out,hpl,hS0,hT],HCr.out.trans (HC5.out.trans HCj.out),fun q x hq hx=>?_⟩
      by_cases e : q = k
      ·subst e
       rw [HZ.out] at hx
       cases hx
       intro p hm
       obtain ⟨i2,hi2,he2⟩:=List.mem_iff_getElem.1 hm
       exact HG.out i2 p (by rw [← hpl];exact hi2) (by rw [List.getElem?_eq_getElem hi2,he2])
      ·exact HF.out q x (by omega) hx
     case measure=>simp [intOf];omega
  ·obtain rfl : k = n:=by omega
   have HSk:=HSz.out k
   obtain ⟨S0,hS0⟩ : ∃ S0,szE es k = S0:=⟨_,rfl⟩
   rw [hS0] at HSk ⊢
   by_cases h300 : S0 ≤ 300
   ·by_cases h40 : k ≤ 40
    ·go_wp2
     all_goals go_ret
     exact ⟨⟨_,rfl,fun _=>⟨by rw [HN.out];exact h40,small_of (by rw [HN.out,hS0];exact h300) (fun j x hj hx=>HF.out j x (by rw [← HN.out];exact hj) hx)⟩⟩,HCr.out⟩
    ·go_wp2
     all_goals go_ret
     exact ⟨⟨_,rfl,fun h=>by first | (cases h;done) | (revert h;simp;done) | (revert h;simp;omega)⟩,HCr.out⟩
   ·go_wp2
    all_goals go_ret
    exact ⟨⟨_,rfl,fun h=>by first | (cases h;done) | (revert h;simp;done) | (revert h;simp;omega)⟩,HCr.out⟩
end Go.Proofs.YtnlnclefedohkaaGreatDoor
set_option linter.unusedVariables false
set_option linter.unusedSimpArgs false
namespace Go.Proofs.YtnlnclefedohkaaGreatDoor
open Go Go.RowKit Sy

end Go.Proofs.YtnlnclefedohkaaGreatDoor
set_option linter.unusedVariables false
set_option linter.unusedSimpArgs false
namespace Go.Proofs.YtnlnclefedohkaaGreatDoor
open Go Go.RowKit Sy

set_option maxHeartbeats 4000000 in
theorem regions_c (gs : List Reg) (n c c' : Nat) (A A' : Option Addr) (w : World) (h : GrsR w A gs) (h' : GrsR w A' gs) (hn : gs.length = n) (hl : n ≤ 1048576) (hnc : n ≤ c) (hnc' : n ≤ c') :
  Calls Tryz.prog 13 #[.slice A n c,.slice A' n c'] w fun e w'=>e = .returned (.bool true) ∧ Calm w w':=by
 have HG:=Lib.hid h
 have HG':=Lib.hid h'
 have HN:=Lib.hid hn
 clear h h' hn
 go_enter Tryz.func13,Tryz.ntmps13
 go_wp2_with fail
 go_loopw [13] (fun u wr=>∃ k : Nat,k ≤ n ∧ u = .int .i64 k ∧ Hid (Calm w wr)) (fun u _=>n - (intOf u).toNat)
 case atStart=>exact ⟨0,Nat.zero_le _,rfl,Calm.refl _⟩
 case round=>
  obtain ⟨k,hk,rfl,HCr⟩:=hrel
  obtain ⟨wq,rfl⟩ : ∃ wq,wq = wr:=⟨_,rfl⟩
  by_cases hlt : k < n
  ·obtain ⟨b,o,z,rfl,hb,hz,c0,c1,c2,hu⟩:=(HG.out.calm HCr.out).get (k:=k) (by rw [HN.out];exact hlt)
   obtain ⟨b',o',z',rfl,hb',hz',d0,d1,d2,hu'⟩:=(HG'.out.calm HCr.out).get (k:=k) (by rw [HN.out];exact hlt)
   have hzz : z'.g = z.g:=by rw [hz] at hz';exact (Option.some.inj hz').symm
   rw [hzz] at d0 d1 d2
   have hub:=hu'.b
   have huh:=hu'.h
   rw [hzz] at hub huh
   obtain ⟨gn,hgn⟩ : ∃ gn,z.g.b.parts.length = gn:=⟨_,rfl⟩
   obtain ⟨gr,hgr⟩ : ∃ gr,z.g.b.rest = gr:=⟨_,rfl⟩
   obtain ⟨gm,hgm⟩ : ∃ gm,z.g.hs.length = gm:=⟨_,rfl⟩
   rw [hgn] at c0 d0
   rw [hgr] at c1 d1
   rw [hgm] at c2 d2
   have KS : Hid (∀ p : CalmTo wq,Calls Tryz.prog 33 #[.agg #[.slice z.A gn z.c,.bool gr,.slice z.HA gm z.hc],.agg #[.slice z'.A gn z'.c,.bool gr,.slice z'.HA gm z'.hc]] p.w fun e w'=>e = .returned (.bool true) ∧ Calm p.w w'):=fun p=>
    rsameg_c z.g.b z.g.hs gn gm gr z.A z.c z.HA z.hc z'.A z'.c z'.HA z'.hc p.w (hu.b.calm p.h).r.toU (hub.calm p.h).r.toU ((hu.h.calm p.h).toV) ((huh.calm p.h).toV) hgn hgm hgr
   have s0:=fun p : CalmTo wq=>p.cell c0 hb
   have s1:=fun p : CalmTo wq=>p.cell c1 hb
   have s2:=fun p : CalmTo wq=>p.cell c2 hb
   have t0:=fun p : CalmTo wq=>p.cell d0 hb'
   have t1:=fun p : CalmTo wq=>p.cell d1 hb'
   have t2:=fun p : CalmTo wq=>p.cell d2 hb'
   have hki : (0 : Int) ≤ (k : Int):=by omega
   have hkn : (k : Int) < (n : Int):=by omega
   clear hz hz' hzz hub huh hgn hgr hgm c0 c1 c2 d0 d1 d2 hu hu'
   go_wp2_with fail
   refine wp_region_calm (by kernel_rfl) (by kernel_rfl) ?_
   repeat (go_big_quiet_step (first | (go_at_call 33;with_reducible exact calmOf (KS.out _))))
   refine wpQuiet_nil ?_
   intro w3 hc3
   have HC3 : Hid (Calm w w3):=HCr.out.trans hc3
   clear hc3 s0 s1 s2 t0 t1 t2
   go_wp2
   go_roundw
   case rel=>exact ⟨k + 1,by omega,by go_num,HC3.out⟩
   case measure=>simp [intOf];omega
  ·obtain rfl : k = n:=by omega
   go_wp2_with fail
   go_ret
   exact ⟨rfl,HCr.out⟩
end Go.Proofs.YtnlnclefedohkaaGreatDoor
set_option linter.unusedVariables false
set_option linter.unusedSimpArgs false
namespace Go.Proofs.YtnlnclefedohkaaGreatDoor
open Go Go.RowKit Sy

theorem redK6 : RedK:=fun b ps A1 c1 PA nl N pc lr W hA hP h1 h2 h3 hb hg=>mreduce_c b ps A1 c1 PA nl N pc lr W hA hP h1 h2 h3 hb hg
theorem mov_c (es fs : List Ent) (n c n2 c2 : Nat) (A A2 : Option Addr) (w : World) (h : EntsA w A es) (hcn : n ≤ c) (hcc : c ≤ 9223372036854775807) (hn : es.length = n) (hs : ∀ x ∈ es,SmallE x) (h2 : EntsA w A2 fs) (hcn2 : n2 ≤ c2) (hcc2 : c2 ≤ 9223372036854775807) (hn2 : fs.length = n2) (hs2 : ∀ x ∈ fs,SmallE x) :
  Calls Tryz.prog 11 #[.slice A n c,.slice A2 n2 c2] w fun e w'=>RegOut (regsE ovOf es fs).1 (regsE ovOf es fs).2 w.heap.size e w' ∧ Calm w w':=mov_k es fs n c n2 c2 A A2 w h hcn hcc hn hs h2 hcn2 hcc2 hn2 hs2 redK6
theorem mag_c (es fs : List Ent) (n c n2 c2 : Nat) (A A2 : Option Addr) (w : World) (h : EntsA w A es) (hcn : n ≤ c) (hcc : c ≤ 9223372036854775807) (hn : es.length = n) (hs : ∀ x ∈ es,SmallE x) (h2 : EntsA w A2 fs) (hcn2 : n2 ≤ c2) (hcc2 : c2 ≤ 9223372036854775807) (hn2 : fs.length = n2) (hs2 : ∀ x ∈ fs,SmallE x) :
  Calls Tryz.prog 14 #[.slice A n c,.slice A2 n2 c2] w fun e w'=>RegOut (regsE agOf es fs).1 (regsE agOf es fs).2 w.heap.size e w' ∧ Calm w w':=mag_k es fs n c n2 c2 A A2 w h hcn hcc hn hs h2 hcn2 hcc2 hn2 hs2 redK6
end Go.Proofs.YtnlnclefedohkaaGreatDoor
set_option linter.unusedVariables false
set_option linter.unusedSimpArgs false
namespace Go.Proofs.YtnlnclefedohkaaGreatDoor
open Go Go.RowKit Sy
theorem smallK6 (es : List Ent) (n c : Nat) (A : Option Addr) (w : World) (h : EntsA w A es) (hcn : n ≤ c) (hcc : c ≤ 9223372036854775807) (hn : es.length = n) :
  Calls Tryz.prog 6 #[.slice A n c] w fun e w'=>(∃ b,e = .returned (.bool b) ∧ (b = true → ∀ x ∈ es,SizeE 60 x)) ∧ Calm w w':=
 (smallM_c es n c A w h hcn hcc hn).mono fun e w' ⟨⟨b,h1,h2⟩,h3⟩=>⟨⟨b,h1,fun hb=>(h2 hb).2⟩,h3⟩
theorem regsE_ok {f : Ent → Ent → Option (Option Reg)} {a b : List Ent} (h : (regsE f a b).2 = 0) : ((mapE a).2 = 0 ∧ (mapE b).2 = 0) ∧ regsL f (pairsL a b) = some (regsE f a b).1:=by
 unfold regsE at h ⊢
 by_cases h1 : (mapE a).2 ≠ 0
 ·rw [if_pos h1] at h
  exact absurd h h1
 ·rw [if_neg h1] at h ⊢
  by_cases h2 : (mapE b).2 ≠ 0
  ·rw [if_pos h2] at h
   exact absurd h h2
  ·rw [if_neg h2] at h ⊢
   refine ⟨⟨by simpa using h1,by simpa using h2⟩,?_⟩
   rcases hr : regsL f (pairsL a b) with _ | gs
   ·rw [hr] at h
    cases h
   ·rw [hr] at h
    simp only at h ⊢
    by_cases h32 : 32 < gs.length
    ·rw [if_pos h32] at h
     cases h
    ·rw [if_neg h32]
theorem regsE_len (f : Ent → Ent → Option (Option Reg)) (a b : List Ent) : (regsE f a b).1.length ≤ 32:=by
 unfold regsE
 split
 ·exact Nat.zero_le _
 ·split
  ·exact Nat.zero_le _
  ·split
   ·exact Nat.zero_le _
   ·split
    ·exact Nat.zero_le _
    ·rename_i h
     exact Nat.le_of_not_lt h
theorem ovOf_good {x y : Ent} (hx : ruleErr x.rule = 0) (hy : ruleErr y.rule = 0) {g : Reg} (h : ovOf x y = some (some g)) : gErr g = 0:=by
 unfold ovOf at h
 rcases hm : meetP x.left y.left with _ | m
 ·rw [hm] at h
  cases h
 ·rw [hm] at h
  exact redG_good (meetP_some hm).2.2.2 h
theorem regsE_good {f : Ent → Ent → Option (Option Reg)} (hf : ∀ x y g,ruleErr x.rule = 0 → ruleErr y.rule = 0 → f x y = some (some g) → gErr g = 0) (a b : List Ent) : ∀ g ∈ (regsE f a b).1,gErr g = 0:=fun g hg=>by
 by_cases h0 : (regsE f a b).2 = 0
 ·obtain ⟨⟨h1,h2⟩,h3⟩:=regsE_ok h0
  rw [(regsL_mem h3).2] at hg
  obtain ⟨⟨x,y⟩,hp,hfx⟩:=List.mem_filterMap.1 hg
  obtain ⟨hx,hy⟩:=pairs_mem hp
  refine hf x y g ((mapE_zero h1).1.good x hx).1 ((mapE_zero h2).1.good y hy).1 ?_
  rcases ho : f x y with _ | o
  ·rw [ho] at hfx
   cases hfx
  ·rw [ho] at hfx
   simp only [Option.getD_some] at hfx
   rw [hfx]
 ·have : (regsE f a b).1 = []:=by
   unfold regsE at h0 ⊢
   by_cases h1 : (mapE a).2 ≠ 0
   ·rw [if_pos h1]
   ·rw [if_neg h1] at h0 ⊢
    by_cases h2 : (mapE b).2 ≠ 0
    ·rw [if_pos h2]
    ·rw [if_neg h2] at h0 ⊢
     rcases hr : regsL f (pairsL a b) with _ | gs
     ·rfl
     ·rw [hr] at h0
      simp only at h0 ⊢
      by_cases h32 : 32 < gs.length
      ·rw [if_pos h32]
      ·rw [if_neg h32] at h0
       exact absurd rfl h0
  rw [this] at hg
  cases hg
theorem RegOut.r6 {gs : List Reg} {er : Int} {B : Nat} {e : Ending} {w' : World} (h : RegOut gs er B e w') (hg : ∀ g ∈ gs,gErr g = 0) {l : Nat} (hl : gs.length = l) : ∃ A c,e = .returned (.tuple #[.slice A l c,.int .i64 er]) ∧ l ≤ c ∧ GrsR w' A gs:=by
 obtain ⟨A,c,h1,h2,_,h3⟩:=h.r hg
 rw [hl] at h1 h2
 exact ⟨A,c,h1,h2,h3⟩
end Go.Proofs.YtnlnclefedohkaaGreatDoor
set_option linter.unusedVariables false
set_option linter.unusedSimpArgs false
namespace Go.Proofs.YtnlnclefedohkaaGreatDoor
open Go Go.RowKit Sy

theorem ofB_f : ofB false = ovOf:=rfl
theorem ofB_t : ofB true = agOf:=rfl
theorem RegOutR.r6 {gs : List Reg} {er : Int} {e : Ending} {w' : World} (h : RegOutR gs er e w') {l : Nat} (hl : gs.length = l) : ∃ A c,e = .returned (.tuple #[.slice A l c,.int .i64 er]) ∧ l ≤ c ∧ GrsR w' A gs:=by
 obtain ⟨A,c,h1,h2,_,h3⟩:=h
 rw [hl] at h1 h2
 exact ⟨A,c,h1,h2,h3⟩
set_option maxHeartbeats 8000000 in
theorem mappingOverlaps_c (es fs : List Ent) (n c n2 c2 : Nat) (A A2 : Option Addr) (w : World) (h : EntsA w A es) (hcn : n ≤ c) (hcc : c ≤ 9223372036854775807) (hn : es.length = n) (h2 : EntsA w A2 fs) (hcn2 : n2 ≤ c2) (hcc2 : c2 ≤ 9223372036854775807) (hn2 : fs.length = n2) (hM : MaxL w) :
  Calls Tryz.prog 4 #[.slice A n c,.slice A2 n2 c2] w fun e w'=>e = .returned (.bool true) ∧ Calm w w':=by
 have KS : Hid (∀ W,Calm w W → Calls Tryz.prog 6 #[.slice A n c] W fun e w'=>(∃ b,e = .returned (.bool b) ∧ (b = true → ∀ x ∈ es,SizeE 60 x)) ∧ Calm W w'):=fun W hW=>smallK6 es n c A W (h.calm hW) hcn hcc hn
 have KS2 : Hid (∀ W,Calm w W → Calls Tryz.prog 6 #[.slice A2 n2 c2] W fun e w'=>(∃ b,e = .returned (.bool b) ∧ (b = true → ∀ x ∈ fs,SizeE 60 x)) ∧ Calm W w'):=fun W hW=>smallK6 fs n2 c2 A2 W (h2.calm hW) hcn2 hcc2 hn2
 have KA : Hid (∀ W,Calm w W → Calls Tryz.prog 7 #[] W fun e w'=>e = .returned (.bool true) ∧ Calm W w'):=fun W hW=>awakeM_c W (hM.calm hW)
 obtain ⟨go,hgo⟩ : ∃ go,(regsE ovOf es fs).1 = go:=⟨_,rfl⟩
 obtain ⟨xo,hxo⟩ : ∃ xo,(regsE ovOf es fs).2 = xo:=⟨_,rfl⟩
 obtain ⟨lo,hlo⟩ : ∃ lo,go.length = lo:=⟨_,rfl⟩
 have hlol : lo ≤ 1048576:=by
  have:=regsE_len ovOf es fs
  rw [hgo,hlo] at this
  omega
 have hgdo : ∀ g ∈ go,gErr g = 0:=by
  rw [← hgo]
  exact regsE_good (fun x y g hx hy h=>ovOf_good hx hy h) es fs
 have KO1 : Hid ((∀ x ∈ es,SizeE 60 x) → (∀ x ∈ fs,SizeE 60 x) → ∀ W,Calm w W → Calls Tryz.prog 11 #[.slice A n c,.slice A2 n2 c2] W fun e w'=>(∃ A3 c3,e = .returned (.tuple #[.slice A3 lo c3,.int .i64 xo]) ∧ lo ≤ c3 ∧ GrsR w' A3 go) ∧ Calm W w'):=fun hs hs2 W hW=>
  (mov_c es fs n c n2 c2 A A2 W (h.calm hW) hcn hcc hn (fun x hx=>(hs x hx).mono (by decide)) (h2.calm hW) hcn2 hcc2 hn2 (fun x hx=>(hs2 x hx).mono (by decide))).mono fun e w' ⟨h1,h2⟩=>by
   rw [hgo,hxo] at h1
   exact ⟨h1.r6 hgdo hlo,h2⟩
 obtain ⟨ga,hga⟩ : ∃ ga,(regsE agOf es fs).1 = ga:=⟨_,rfl⟩
 obtain ⟨xa,hxa⟩ : ∃ xa,(regsE agOf es fs).2 = xa:=⟨_,rfl⟩
 obtain ⟨la,hla⟩ : ∃ la,ga.length = la:=⟨_,rfl⟩
 have hlal : la ≤ 1048576:=by
  have:=regsE_len agOf es fs
  rw [hga,hla] at this
  omega
 have hgda : ∀ g ∈ ga,gErr g = 0:=by
  rw [← hga]
  exact regsE_good (fun x y g hx hy h=>ag_good hx hy h) es fs
 have KA1 : Hid ((∀ x ∈ es,SizeE 60 x) → (∀ x ∈ fs,SizeE 60 x) → ∀ W,Calm w W → Calls Tryz.prog 14 #[.slice A n c,.slice A2 n2 c2] W fun e w'=>(∃ A3 c3,e = .returned (.tuple #[.slice A3 la c3,.int .i64 xa]) ∧ la ≤ c3 ∧ GrsR w' A3 ga) ∧ Calm W w'):=fun hs hs2 W hW=>
  (mag_c es fs n c n2 c2 A A2 W (h.calm hW) hcn hcc hn (fun x hx=>(hs x hx).mono (by decide)) (h2.calm hW) hcn2 hcc2 hn2 (fun x hx=>(hs2 x hx).mono (by decide))).mono fun e w' ⟨h1,h2⟩=>by
   rw [hga,hxa] at h1
   exact ⟨h1.r6 hgda hla,h2⟩
 have KRo : Hid ((∀ x ∈ es,SizeE 60 x) → (∀ x ∈ fs,SizeE 60 x) → ∀ W,Calm w W → Calls Tryz.prog 12 #[.slice A n c,.slice A2 n2 c2,.bool false] W fun e w'=>(∃ A3 c3,e = .returned (.tuple #[.slice A3 lo c3,.int .i64 xo]) ∧ lo ≤ c3 ∧ GrsR w' A3 go) ∧ Calm W w'):=fun hs hs2 W hW=>
  (rcmn_c es fs false n c n2 c2 A A2 W (h.calm hW) hcn hcc hn (fun x hx=>(hs x hx).mono (by decide)) (h2.calm hW) hcn2 hcc2 hn2 (fun x hx=>(hs2 x hx).mono (by decide))).mono fun e w' ⟨h1,h2⟩=>by
   rw [ofB_f,hgo,hxo] at h1
   exact ⟨h1.r6 hlo,h2⟩
 have KGo : Hid (∀ W A2 c2 A3 c3,GrsR W A2 go → GrsR W A3 go → lo ≤ c2 → lo ≤ c3 → Calls Tryz.prog 13 #[.slice A2 lo c2,.slice A3 lo c3] W fun e w'=>e = .returned (.bool true) ∧ Calm W w'):=fun W A2 c2 A3 c3 h1 h2 h3 h4=>
  regions_c go lo c2 c3 A2 A3 W h1 h2 hlo hlol h3 h4
 have KRa : Hid ((∀ x ∈ es,SizeE 60 x) → (∀ x ∈ fs,SizeE 60 x) → ∀ W,Calm w W → Calls Tryz.prog 12 #[.slice A n c,.slice A2 n2 c2,.bool true] W fun e w'=>(∃ A3 c3,e = .returned (.tuple #[.slice A3 la c3,.int .i64 xa]) ∧ la ≤ c3 ∧ GrsR w' A3 ga) ∧ Calm W w'):=fun hs hs2 W hW=>
  (rcmn_c es fs true n c n2 c2 A A2 W (h.calm hW) hcn hcc hn (fun x hx=>(hs x hx).mono (by decide)) (h2.calm hW) hcn2 hcc2 hn2 (fun x hx=>(hs2 x hx).mono (by decide))).mono fun e w' ⟨h1,h2⟩=>by
   rw [ofB_t,hga,hxa] at h1
   exact ⟨h1.r6 hla,h2⟩
 have KGa : Hid (∀ W A2 c2 A3 c3,GrsR W A2 ga → GrsR W A3 ga → la ≤ c2 → la ≤ c3 → Calls Tryz.prog 13 #[.slice A2 la c2,.slice A3 la c3] W fun e w'=>e = .returned (.bool true) ∧ Calm W w'):=fun W A2 c2 A3 c3 h1 h2 h3 h4=>
  regions_c ga la c2 c3 A2 A3 W h1 h2 hla hlal h3 h4
 clear h hn h2 hn2 hM hgo hxo hlo hga hxa hla hgdo hgda
 go_enter Tryz.func4,Tryz.ntmps4
 go_wp2_with fail
 refine (KS.out w (Calm.refl _)).mono ?_
 rintro e wa0 ⟨⟨b0,rfl,hb0⟩,hc0⟩
 have HB0:=Lib.hid hb0
 have HCa0 : Hid (Calm w wa0):=hc0
 clear hb0 hc0
 cases b0 with
 |false=>
  go_wp2_with fail
  refine (KA.out wa0 HCa0.out).mono ?_
  rintro e wz ⟨rfl,hcz⟩
  go_wp2_with fail
  go_ret
  exact ⟨rfl,HCa0.out.trans hcz⟩
 |true=>
  have HS:=Lib.hid (HB0.out rfl)
  go_wp2_with fail
  refine (KS2.out wa0 HCa0.out).mono ?_
  rintro e wa1 ⟨⟨b1,rfl,hb1⟩,hc1⟩
  have HB1:=Lib.hid hb1
  have HCa1 : Hid (Calm w wa1):=HCa0.out.trans hc1
  clear hb1 hc1
  cases b1 with
  |false=>
   go_wp2_with fail
   refine (KA.out wa1 HCa1.out).mono ?_
   rintro e wz ⟨rfl,hcz⟩
   go_wp2_with fail
   go_ret
   exact ⟨rfl,HCa1.out.trans hcz⟩
  |true=>
   have HS2:=Lib.hid (HB1.out rfl)
   go_wp2_with fail
   refine (KO1.out HS.out HS2.out wa1 HCa1.out).mono ?_
   rintro e w3 ⟨⟨A3,c3,rfl,hl3,hG3⟩,hc3⟩
   have HC3 : Hid (Calm w w3):=HCa1.out.trans hc3
   have HG3:=Lib.hid hG3
   clear hc3 hG3
   go_wp2_with fail
   refine (KRo.out HS.out HS2.out w3 HC3.out).mono ?_
   rintro e w4 ⟨⟨A4,c4,rfl,hl4,hG4⟩,hc4⟩
   have HC4 : Hid (Calm w w4):=HC3.out.trans hc4
   have HG4:=Lib.hid hG4
   have HGx3:=Lib.hid (HG3.out.calm hc4)
   clear hc4 hG4
   go_wp2_with fail
   refine (KGo.out w4 A3 c3 A4 c4 HGx3.out HG4.out hl3 hl4).mono ?_
   rintro e w5 ⟨rfl,hc5⟩
   have HC5 : Hid (Calm w w5):=HC4.out.trans hc5
   clear hc5
   go_wp2_with fail
   refine (KA1.out HS.out HS2.out w5 HC5.out).mono ?_
   rintro e w6 ⟨⟨A6,c6,rfl,hl6,hG6⟩,hc6⟩
   have HC6 : Hid (Calm w w6):=HC5.out.trans hc6
   have HG6:=Lib.hid hG6
   clear hc6 hG6
   go_wp2_with fail
   refine (KRa.out HS.out HS2.out w6 HC6.out).mono ?_
   rintro e w7 ⟨⟨A7,c7,rfl,hl7,hG7⟩,hc7⟩
   have HC7 : Hid (Calm w w7):=HC6.out.trans hc7
   have HG7:=Lib.hid hG7
   have HGx6:=Lib.hid (HG6.out.calm hc7)
   clear hc7 hG7
   go_wp2_with fail
   refine (KGa.out w7 A6 c6 A7 c7 HGx6.out HG7.out hl6 hl7).mono ?_
   rintro e w8 ⟨rfl,hc8⟩
   have HC8 : Hid (Calm w w8):=HC7.out.trans hc8
   clear hc8
   go_wp2_with fail
   refine (KA.out w8 HC8.out).mono ?_
   rintro e wz ⟨rfl,hcz⟩
   go_wp2_with fail
   go_ret
   exact ⟨rfl,HC8.out.trans hcz⟩
end Go.Proofs.YtnlnclefedohkaaGreatDoor
