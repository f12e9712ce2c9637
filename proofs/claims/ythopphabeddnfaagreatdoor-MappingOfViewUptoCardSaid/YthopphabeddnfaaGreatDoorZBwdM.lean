/- Walk: mapping.Backward. -/
import Derived.Test.YthopphabeddnfaaGreatDoorZFwd
import Derived.Test.YthopphabeddnfaaGreatDoorZFwdM
set_option linter.unusedVariables false
set_option linter.unusedSimpArgs false
namespace Go.Proofs.YthopphabeddnfaaGreatDoor
open Go Go.RowKit Sy

theorem turn_zero (r : Rule) : ruleErr r.turn = 0 ↔ ruleErr r = 0:=⟨fun h=>ruleErr_twin.2 (ruleErr_twin.1 h).turn,fun h=>ruleErr_twin.2 (ruleErr_twin.1 h).turn⟩
set_option maxHeartbeats 2000000 in
theorem bwd_c (r : Rule) (a : Pl) (s : Str) (w : World) (hr : RuleU w a r) (hsm : SmallV r) (hs : s.length ≤ 1100000) (hM : MaxL w) :
  Calls Tryz.prog 30 #[ruleV a r,.string (bs s)] w fun e w'=>e = .returned (fwdV r.turn s) ∧ Calm w w':=by
 obtain ⟨nl,hnl⟩ : ∃ nl,r.left.parts.length = nl:=⟨_,rfl⟩
 obtain ⟨nr,hnr⟩ : ∃ nr,r.right.parts.length = nr:=⟨_,rfl⟩
 obtain ⟨lr,hlr⟩ : ∃ lr,r.left.rest = lr:=⟨_,rfl⟩
 obtain ⟨rr,hrr⟩ : ∃ rr,r.right.rest = rr:=⟨_,rfl⟩
 obtain ⟨ex,hex⟩ : ∃ ex,r.excl = ex:=⟨_,rfl⟩
 obtain ⟨w1,hw1⟩ : ∃ w1,w1 = w.alloc (.cells #[.bool ex,.slice a.AL nl a.cl,.bool lr,.slice a.AR nr a.cr,.bool rr] 44):=⟨_,rfl⟩
 have hc1 : Calm w w1:=by rw [hw1];exact (Calm.refl w).alloc _
 have hbox : BoxR w1 w.heap.size a r nl nr lr rr ex:=by rw [hw1];exact ⟨by simp,by simp,by simp,by simp,by simp,by simp⟩
 have hru:=hr.calm hc1
 obtain ⟨v,hv⟩ : ∃ v,ruleErr r = v:=⟨_,rfl⟩
 have hk:=rule_c r a w1 hru
 unfold ruleV at hk ⊢
 rw [hnl,hnr,hlr,hrr,hex] at hk ⊢
 rw [hv] at hk
 have HW:=Lib.hid hw1
 have HC:=Lib.hid hc1
 have HB:=Lib.hid hbox
 have KT : v = 0 → Hid (∀ W,Calm w1 W → Calls Tryz.prog 53 #[.agg #[.slice a.AR nr a.cr,.bool rr],.agg #[.slice a.AL nl a.cl,.bool lr],.string (bs s)] W fun e w'=>e = .returned (fwdV r.turn s) ∧ Calm W w'):=fun hv0 W hW=>by
  have:=trans_c r.turn a.turn s W (hru.calm hW).turn hsm.turn hs ((turn_zero r).2 (by rw [hv,hv0])) ((hM.calm hc1).calm hW)
  unfold Rule.turn Pl.turn at this
  simp only [hnl,hnr,hlr,hrr] at this
  exact this
 have hno : v ≠ 0 → Hid (fwdV r.turn s = .tuple #[.string (bs []),.bool false]):=fun h=>by
  show fwdV r.turn s = _
  rw [fwdV,fwd_err (fun e=>h (by rw [← hv];exact (turn_zero r).1 e))]
  rfl
 have hfv : Hid (fwdV r.turn s = .tuple #[.string (bs ((fwd r.turn s).getD [])),.bool (fwd r.turn s).isSome]):=rfl
 have HFv:=hfv
 clear hw1 hc1 hbox hru hr hM hsm hs hnl hnr hlr hrr hex hv hfv
 generalize bs ((fwd r.turn s).getD []) = fs at HFv
 generalize (fwd r.turn s).isSome = fb at HFv
 go_enter Tryz.func30,Tryz.ntmps30
 by_cases hv0 : v = 0
 ·subst hv0
  have KT2:=KT rfl
  rw [HFv.out] at KT2
  clear KT hno
  go_wp2_with fail
  rw [← HW.out]
  refine hk.mono ?_
  rintro e w2 ⟨rfl,hc2⟩
  have d2:=HB.out.calm hc2
  have e1:=d2.c1
  have e2:=d2.c2
  have e3:=d2.c3
  have e4:=d2.c4
  have hft:=KT2.out w2 hc2
  clear hk KT2
  go_wp2_with (go_at_call 53;refine hft.mono ?_;rintro e w3 ⟨rfl,hc3⟩)
  go_ret2
  exact ⟨by rw [HFv.out];rfl,HC.out.trans (hc2.trans hc3)⟩
 ·have hf:=hno hv0
  have hvb : (v != 0) = true:=by simpa using hv0
  clear KT hno hv0
  go_wp2_with fail
  rw [← HW.out]
  refine hk.mono ?_
  rintro e w2 ⟨rfl,hc2⟩
  go_wp2
  go_ret2
  exact ⟨by rw [hf.out];rfl,HC.out.trans hc2⟩

end Go.Proofs.YthopphabeddnfaaGreatDoor
set_option linter.unusedVariables false
set_option linter.unusedSimpArgs false
namespace Go.Proofs.YthopphabeddnfaaGreatDoor
open Go Go.RowKit Sy

theorem join_app_len (K : Nat) (b : List Str) : ∀ a : List Str,(∀ x ∈ a,x.length ≤ K) → (Lib.join (a ++ b) [47]).length ≤ a.length * (K + 1) + (Lib.join b [47]).length
 |[],_=>by simp
 |x :: a,h=>by
  have ih:=join_app_len K b a (fun y hy=>h y (by simp [hy]))
  have hx:=h x (by simp)
  rw [List.cons_append,List.length_cons,Nat.succ_mul]
  rcases hab : a ++ b with _ | ⟨y,t⟩
  ·rw [join47_one]
   omega
  ·rw [join47_cons,← hab]
   simp only [List.length_append,List.length_cons]
   omega
theorem fwd_len {r : Rule} {s t : Str} (hsm : SmallV r) (h25 : ∀ x ∈ r.right.parts,x.length ≤ 250) (hs : s.length ≤ 300) (h : fwd r s = some t) : t.length ≤ 1048576:=by
 obtain ⟨l,h0,hp,hm,ht,_⟩:=fwd_some h
 have tw:=ruleErr_twin.1 h0
 have h12:=patErr_len tw.rp
 obtain ⟨h2,h3,h4⟩:=pathOf_some hp
 have hjl : (Lib.join l [47]).length ≤ 300:=by
  rw [h4] at hs
  simp only [pathStr,List.length_cons] at hs
  omega
 have hea : ∀ x ∈ l,x.length ≤ 300:=by
  have hh : l = slash (Lib.join l [47]):=(slash_join l (by rintro rfl;simp at h2) (fun x hx=>comp_no47 (List.all_eq_true.1 h3 x hx))).symm
  intro x hx
  rw [hh] at hx
  have:=slash_each _ x hx
  omega
 have hcs:=capsTo_each (p:=r.left) hea r.left.parts.length
 have hK : ∀ x ∈ fillR r.right.parts (capsTo r.left l r.left.parts.length),x.length ≤ 550:=by
  intro y hy
  obtain ⟨j,hj,e⟩:=List.mem_iff_getElem.1 hy
  have hjl : j < r.right.parts.length:=by rw [fillR_len] at hj;exact hj
  have h1:=fillR_get r.right.parts (capsTo r.left l r.left.parts.length) j _ (List.getElem?_eq_getElem hjl)
  rw [List.getElem?_eq_getElem hj,e] at h1
  simp only [Option.some.injEq] at h1
  have h2:=h25 _ (List.getElem_mem hjl)
  rw [h1]
  split
  ·rw [List.length_append,List.length_tail]
   have h3 : ((capsTo r.left l r.left.parts.length).getD ((r.right.parts.take j).filter isStar).length []).length ≤ 300:=by
    rw [List.getD_eq_getElem?_getD]
    rcases e : (capsTo r.left l r.left.parts.length)[((r.right.parts.take j).filter isStar).length]? with _ | y
    ·simp
    ·exact hcs y (List.mem_of_getElem? e)
   omega
  ·omega
 have hfl:=fillR_len r.right.parts (capsTo r.left l r.left.parts.length)
 have hrest : (Lib.join (if r.right.rest then l.drop r.left.parts.length else []) [47]).length ≤ 300:=by
  split
  ·have:=join_drop_le r.left.parts.length l
   omega
  ·simp [Lib.join,List.intercalate]
 have hj:=join_app_len 550 (if r.right.rest then l.drop r.left.parts.length else []) _ hK
 rw [ht,pathStr,trL]
 simp only [List.length_cons]
 rw [hfl] at hj
 have : r.right.parts.length * (550 + 1) ≤ 12 * 551:=Nat.mul_le_mul h12 (Nat.le_refl _)
 omega

end Go.Proofs.YthopphabeddnfaaGreatDoor
set_option linter.unusedVariables false
set_option linter.unusedSimpArgs false
namespace Go.Proofs.YthopphabeddnfaaGreatDoor
open Go Go.RowKit Sy
def bwE (x : Ent) (s : Str) : Option Str:=(fwd x.rule.turn s).filter fun t=>hasS x.left x.hs t
def bwS (es : List Ent) (s : Str) : Option Str:=es.findSome? fun x=>bwE x s
def bwV (es : List Ent) (s : Str) : Value:=.tuple #[.string (bs ((bwS es s).getD [])),.bool (bwS es s).isSome]
def mbV (es : List Ent) (s : Str) : Value:=if (mapE es).2 = 0 then bwV es s else .tuple #[.string (bs []),.bool false]
theorem bwS_hit {es : List Ent} {s t : Str} {k : Nat} {x : Ent} (hk : es[k]? = some x) (hx : bwE x s = some t) (hall : ∀ j q,j < k → es[j]? = some q → bwE q s = none) : bwV es s = .tuple #[.string (bs t),.bool true]:=by
 have hf : bwS es s = some t:=by
  unfold bwS
  obtain ⟨hlt,rfl⟩:=List.getElem?_eq_some_iff.1 hk
  have e : es = es.take k ++ es[k] :: es.drop (k + 1):=by
   rw [List.getElem_cons_drop,List.take_append_drop]
  rw [e,List.findSome?_append,List.findSome?_cons,hx]
  have : (es.take k).findSome? (fun x=>bwE x s) = none:=by
   rw [List.findSome?_eq_none_iff]
   intro q hq
   obtain ⟨j,hj,e2⟩:=List.mem_iff_getElem.1 hq
   rw [List.length_take] at hj
   rw [List.getElem_take] at e2
   exact hall j q (by omega) (by rw [List.getElem?_eq_getElem (by omega),e2])
  rw [this]
  rfl
 unfold bwV
 rw [hf]
 rfl
theorem bwS_miss {es : List Ent} {s : Str} (hall : ∀ j q,j < es.length → es[j]? = some q → bwE q s = none) : bwV es s = .tuple #[.string (bs []),.bool false]:=by
 have hf : bwS es s = none:=by
  unfold bwS
  rw [List.findSome?_eq_none_iff]
  intro q hq
  obtain ⟨j,hj,e2⟩:=List.mem_iff_getElem.1 hq
  exact hall j q hj (by rw [List.getElem?_eq_getElem hj,e2])
 unfold bwV
 rw [hf]
 rfl
theorem bwE_no {x : Ent} {s : Str} (h : fwd x.rule.turn s = none) : bwE x s = none:=by
 unfold bwE
 rw [h]
 rfl
theorem bwE_some {x : Ent} {s t : Str} (h : fwd x.rule.turn s = some t) {v : Bool} (hv : hasS x.left x.hs t = v) : bwE x s = if v then some t else none:=by
 unfold bwE
 rw [h]
 cases v <;> simp [Option.filter,hv]
theorem noneStep {es : List Ent} {s : Str} {k : Nat} {x : Ent} (hk : es[k]? = some x) (hx : bwE x s = none) (h : ∀ j q,j < k → es[j]? = some q → bwE q s = none) : ∀ j q,j < k + 1 → es[j]? = some q → bwE q s = none:=fun j q hj hq=>by
 rcases Nat.lt_or_ge j k with hjk | hjk
 ·exact h j q hjk hq
 ·obtain rfl : j = k:=by omega
  rw [hk] at hq
  exact Option.some.inj hq ▸ hx
set_option maxHeartbeats 4000000 in
theorem mbwd_c (es : List Ent) (s : Str) (n c : Nat) (A : Option Addr) (w : World) (h : EntsA w A es) (hcn : n ≤ c) (hcc : c ≤ 9223372036854775807) (hn : es.length = n) (hsm : ∀ x ∈ es,SmallE x) (hsl : s.length ≤ 300) (hM : MaxL w) :
  Calls Tryz.prog 10 #[.slice A n c,.string (bs s)] w fun e w'=>e = .returned (mbV es s) ∧ Calm w w':=by
 have hl : n ≤ 1048576:=by rw [← hn];exact h.1
 obtain ⟨er,her⟩ : ∃ er,(mapE es).2 = er:=⟨_,rfl⟩
 obtain ⟨w1,hw1⟩ : ∃ w1,w1 = w.alloc (.cells #[.slice A n c] 24):=⟨_,rfl⟩
 have hc1 : Calm w w1:=by rw [hw1];exact (Calm.refl w).alloc _
 have KC:=check1_c es n c w.heap.size A er w1 (h.calm hc1) hcn hcc hsm hn her (by rw [hw1];simp) (by rw [hw1];simp)
 have HV0 : er ≠ 0 → Hid (mbV es s = .tuple #[.string (bs []),.bool false]):=fun h0=>by
  show mbV es s = _
  unfold mbV
  rw [her,if_neg h0]
 have HV1 : er = 0 → Hid (mbV es s = bwV es s ∧ ∀ x ∈ es,ruleErr x.rule = 0 ∧ gErr x.reg = 0):=fun h0=>by
  refine ⟨?_,(mapE_zero (her.trans h0)).1.good⟩
  show mbV es s = _
  unfold mbV
  rw [her,if_pos h0]
 have HE:=Lib.hid h
 have HN:=Lib.hid hn
 have HS:=Lib.hid hsm
 have HM:=Lib.hid hM
 have HW:=Lib.hid hw1
 have HC:=Lib.hid hc1
 have HKC:=Lib.hid KC
 clear h hn hsm hM hw1 hc1 KC her
 go_enter Tryz.func10,Tryz.ntmps10
 by_cases h0 : er = 0
 ·subst h0
  have HV:=HV1 rfl
  clear HV0 HV1
  go_wp2_with fail
  rw [← HW.out]
  refine HKC.out.mono ?_
  rintro e w2 ⟨rfl,hc2⟩
  have HC2 : Hid (Calm w w2):=HC.out.trans hc2
  clear hc2
  go_wp2_with fail
  go_loopw [16] (fun u wr=>∃ k : Nat,k ≤ n ∧ u = .int .i64 k ∧ Hid (∀ j q,j < k → es[j]? = some q → bwE q s = none) ∧ Hid (Calm w wr)) (fun u _=>n - (intOf u).toNat)
  case atStart=>exact ⟨0,Nat.zero_le _,rfl,fun j h hj=>absurd hj (Nat.not_lt_zero _),HC2.out⟩
  case round=>
   obtain ⟨k,hk,rfl,HI,HCr⟩:=hrel
   obtain ⟨wq,rfl⟩ : ∃ wq,wq = wr:=⟨_,rfl⟩
   by_cases hlt : k < n
   ·obtain ⟨b,o,z,rfl,hb,hz,c0,c1,c2,c3,c4,hua⟩:=(HE.out.calm HCr.out).get (k:=k) (by rw [HN.out];exact hlt)
    have hmem:=List.mem_of_getElem? hz
    have hgd:=HV.out.2 z.e hmem
    have hu:=hua.few (HS.out _ hmem) hgd.2
    have hsv:=(HS.out _ hmem).v hgd.1
    have hs25:=(HS.out _ hmem).ls
    obtain ⟨e0,he0⟩ : ∃ e0,z.e = e0:=⟨_,rfl⟩
    have ul:=hu.l
    have ur:=hu.r
    have uh:=hu.h
    rw [he0] at c0 c1 c2 c3 c4 ul ur uh hz hgd hsv hs25
    obtain ⟨nl,hnl⟩ : ∃ nl,e0.left.parts.length = nl:=⟨_,rfl⟩
    obtain ⟨nr,hnr⟩ : ∃ nr,e0.right.parts.length = nr:=⟨_,rfl⟩
    obtain ⟨lr,hlr⟩ : ∃ lr,e0.left.rest = lr:=⟨_,rfl⟩
    obtain ⟨rr,hrr⟩ : ∃ rr,e0.right.rest = rr:=⟨_,rfl⟩
    obtain ⟨hn,hhn⟩ : ∃ hn,e0.hs.length = hn:=⟨_,rfl⟩
    rw [hnl] at c0
    rw [hlr] at c1
    rw [hnr] at c2
    rw [hrr] at c3
    rw [hhn] at c4
    have KG : Hid (∀ W,Calls Tryz.prog 21 #[entV z.LA z.RA z.HA nl z.lc nr z.rc hn z.hc lr rr] W fun e w'=>e = .returned (.agg #[.slice z.LA nl z.lc,.bool lr,.slice z.HA hn z.hc]) ∧ Calm W w'):=fun W=>left_c _ _ _ _ _ _ _ _ _ _ _ W
    have KL : Hid (∀ W,Calls Tryz.prog 25 #[entV z.LA z.RA z.HA nl z.lc nr z.rc hn z.hc lr rr] W fun e w'=>e = .returned (.agg #[.bool false,.slice z.LA nl z.lc,.bool lr,.slice z.RA nr z.rc,.bool rr]) ∧ Calm W w'):=fun W=>line_c _ _ _ _ _ _ _ _ _ _ _ W
    have KH : Hid (∀ W t v,Calm wq W → t.length ≤ 1100000 → hasS e0.left e0.hs t = v → Calls Tryz.prog 23 #[.agg #[.slice z.LA nl z.lc,.bool lr,.slice z.HA hn z.hc],.string (bs t)] W fun e w'=>e = .returned (.bool v) ∧ Calm W w'):=fun W t v hW ht hv=>
     has_g e0 t v z.LA nl z.lc z.HA hn z.hc lr W ht (ul.calm hW).r ul.room ul.cap (uh.calm hW) (HM.out.calm (HCr.out.trans hW)) hgd.2 hv hnl hhn hlr
    have KF : Hid (∀ W,Calm wq W → Calls Tryz.prog 30 #[.agg #[.bool false,.slice z.LA nl z.lc,.bool lr,.slice z.RA nr z.rc,.bool rr],.string (bs s)] W fun e w'=>e = .returned (fwdV e0.rule.turn s) ∧ Calm W w'):=fun W hW=>by
     have:=bwd_c e0.rule ⟨z.LA,z.lc,z.RA,z.rc⟩ s W ⟨(ul.calm hW).r.toU,(ur.calm hW).r.toU,ul.room,ur.room,ul.cap,ur.cap⟩ hsv (by omega) (HM.out.calm (HCr.out.trans hW))
     unfold ruleV Ent.rule at this
     simp only [hnl,hnr,hlr,hrr] at this
     exact this
    have HFl : Hid (∀ t,fwd e0.rule.turn s = some t → t.length ≤ 1048576):=fun t ht=>fwd_len hsv.turn hs25 hsl ht
    have HZ:=Lib.hid hz
    obtain ⟨B,hB⟩ : ∃ B,wq.heap.size = B:=⟨_,rfl⟩
    obtain ⟨wb,hwb⟩ : ∃ wb,wb = wq.alloc (.cells #[.slice z.LA nl z.lc,.bool lr,.slice z.RA nr z.rc,.bool rr,.slice z.HA hn z.hc] 40):=⟨_,rfl⟩
    have hf : FiveB wb B (.slice z.LA nl z.lc) (.bool lr) (.slice z.RA nr z.rc) (.bool rr) (.slice z.HA hn z.hc):=by
     rw [hwb,← hB]
     exact FiveB.new wq _ _ _ _ _ _
    have hcb : Calm wq wb:=by
     show Below _ _ _
     rw [hwb]
     exact (Calm.refl _).alloc _
    have HF:=Lib.hid hf
    have HCb:=Lib.hid hcb
    have HWb:=Lib.hid hwb
    have HBB:=Lib.hid hB
    clear hz he0 hu hua ul ur uh hnl hnr hlr hrr hhn hf hcb hwb hB hmem hgd hsv hs25
    obtain ⟨ft,hft⟩ : ∃ ft,fwd e0.rule.turn s = ft:=⟨_,rfl⟩
    have HFt:=Lib.hid hft
    unfold fwdV at KF
    rw [hft] at KF
    clear hft
    go_wp2_with fail
    rw [← HWb.out]
    refine (KL.out wb).mono ?_
    rintro e w3 ⟨rfl,hc3⟩
    have HC3 : Hid (Calm wb w3):=hc3
    rw [HBB.out]
    clear c0 c1 c2 c3 c4 hc3
    go_wp2_with fail
    refine (KF.out w3 (HCb.out.trans HC3.out)).mono ?_
    rintro e w4 ⟨rfl,hc4⟩
    have HC4 : Hid (Calm wb w4):=HC3.out.trans hc4
    clear hc4
    cases ft with
    |none=>
     have HNo : Hid (bwE e0 s = none):=bwE_no HFt.out
     go_wp2_with fail
     go_roundw
     case rel=>exact ⟨k + 1,by omega,by go_num,noneStep HZ.out HNo.out HI.out,HCr.out.trans (HCb.out.trans HC4.out)⟩
     case measure=>simp [intOf];omega
    |some t=>
     obtain ⟨v,hv⟩ : ∃ v,hasS e0.left e0.hs t = v:=⟨_,rfl⟩
     have HBw : Hid (bwE e0 s = if v then some t else none):=bwE_some HFt.out hv
     have KH2:=Lib.hid (fun W (hW : Calm wq W)=>KH.out W t v hW (by have:=HFl.out t HFt.out;omega) hv)
     have f3:=HF.out.calm HC4.out
     have c0:=f3.c0
     have c1:=f3.c1
     have c2:=f3.c2
     have c3:=f3.c3
     have c4:=f3.c4
     clear f3 hv
     simp only [Option.getD_some,Option.isSome_some]
     go_wp2_with fail
     refine (KG.out w4).mono ?_
     rintro e w5 ⟨rfl,hc5⟩
     have HC5 : Hid (Calm wq w5):=HCb.out.trans (HC4.out.trans hc5)
     clear hc5 c0 c1 c2 c3 c4
     go_wp2_with fail
     refine (KH2.out w5 HC5.out).mono ?_
     rintro e w6 ⟨rfl,hc6⟩
     have HC6 : Hid (Calm w w6):=HCr.out.trans (HC5.out.trans hc6)
     clear hc6
     cases v with
     |true=>
      have HBy : Hid (mbV es s = .tuple #[.string (bs t),.bool true]):=HV.out.1.trans (bwS_hit HZ.out HBw.out HI.out)
      go_wp2_with fail
      go_ret2
      exact ⟨by rw [HBy.out];rfl,HC6.out⟩
     |false=>
      have HNo : Hid (bwE e0 s = none):=HBw.out
      go_wp2_with fail
      go_roundw
      case rel=>exact ⟨k + 1,by omega,by go_num,noneStep HZ.out HNo.out HI.out,HC6.out⟩
      case measure=>simp [intOf];omega
   ·obtain rfl : k = n:=by omega
    have HBy : Hid (mbV es s = .tuple #[.string (bs []),.bool false]):=HV.out.1.trans (bwS_miss (fun j q hj hq=>HI.out j q (by rw [HN.out] at hj;exact hj) hq))
    go_wp2_with fail
    go_ret2
    exact ⟨by rw [HBy.out];rfl,HCr.out⟩
 ·have HV:=HV0 h0
  have hb : (er != 0) = true:=by simpa using h0
  clear HV0 HV1 h0
  go_wp2_with fail
  rw [← HW.out]
  refine HKC.out.mono ?_
  rintro e w2 ⟨rfl,hc2⟩
  go_wp2_with fail
  go_ret2
  exact ⟨by rw [HV.out];rfl,HC.out.trans hc2⟩
end Go.Proofs.YthopphabeddnfaaGreatDoor
