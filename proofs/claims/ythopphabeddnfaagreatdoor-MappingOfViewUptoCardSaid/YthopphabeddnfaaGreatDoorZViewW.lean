/- Walks: the two Checks of a view, its last line, Forward, Decides (written by program: gen_vieww.py). -/
import Derived.Test.YthopphabeddnfaaGreatDoorZFwd
set_option linter.unusedVariables false
set_option linter.unusedSimpArgs false
namespace Go.Proofs.YthopphabeddnfaaGreatDoor
open Go Go.RowKit Sy

theorem rule_v (r : Rule) (v : Int) (a : Pl) (w : World) (hr : RuleU w a r) (hsm : True) (h : ruleErr r = v) : Calls Tryz.prog 34 #[.agg #[.bool r.excl,.slice a.AL r.left.parts.length a.cl,.bool r.left.rest,.slice a.AR r.right.parts.length a.cr,.bool r.right.rest]] w fun e w'=>e = .returned (.int .i64 v) ∧ Calm w w':=h ▸ rule_c r a w hr
theorem view_bad {v : List Rule} {k : Nat} {r : Rule} (h : v[k]? = some r) (hr : ruleErr r ≠ 0) (hg : ∀ j q,j < k → v[j]? = some q → ruleErr q = 0) : viewIx v = k ∧ viewErr v = 60:=by
 have:=viewErrFrom_bad (i:=0) h hr hg
 rw [viewIx,viewErr,this]
 simp
theorem view_good {v : List Rule} (hg : ∀ r ∈ v,ruleErr r = 0) : viewIx v = 0 ∧ viewErr v = if 16 < v.length then 61 else 0:=by
 have:=viewErrFrom_good (i:=0) hg
 rw [viewIx,viewErr,this]
 simp
theorem all_of_to {v : List Rule} {n : Nat} {P : Rule → Prop} (hn : v.length = n) (h : ∀ j q,j < n → v[j]? = some q → P q) : ∀ r ∈ v,P r:=fun r hr=>by
 obtain ⟨j,hj,e⟩:=List.mem_iff_getElem.1 hr
 exact h j r (by omega) (by rw [← e];exact List.getElem?_eq_getElem hj)
theorem snoc_to {v : List Rule} {k : Nat} {r : Rule} {P : Rule → Prop} (h : v[k]? = some r) (hr : P r) (hg : ∀ j q,j < k → v[j]? = some q → P q) : ∀ j q,j < k + 1 → v[j]? = some q → P q:=fun j q hj hq=>by
 by_cases e : j = k
 ·subst e
  rw [h] at hq
  cases hq
  exact hr
 ·exact hg j q (by omega) hq

set_option maxHeartbeats 1000000 in
theorem vcheck_c (v : List Rule) (A : Option Addr) (c : Nat) (w : World) (hv : RulesU w A v) (hsm : ∀ r ∈ v,True) :
  Calls Tryz.prog 13 #[.slice A v.length c] w fun e w'=>e = .returned (.tuple #[.int .i64 (viewIx v : Nat),.int .i64 (viewErr v)]) ∧ Calm w w':=by
 have hlen:=hv.len
 obtain ⟨n,hn⟩ : ∃ n,v.length = n:=⟨_,rfl⟩
 rw [hn] at hlen ⊢
 have HN:=Lib.hid hn
 have HV:=Lib.hid hv
 have HSm:=Lib.hid hsm
 clear hn hv hsm
 go_enter Tryz.func13,Tryz.ntmps13
 go_wp2_with fail
 go_loopw [8] (fun q wr=>∃ k : Nat,k ≤ n ∧ q = .int .i64 k ∧ Hid (∀ j r,j < k → v[j]? = some r → ruleErr r = 0) ∧ Hid (Calm w wr)) (fun q _=>n - (intOf q).toNat)
 case atStart=>exact ⟨0,Nat.zero_le _,rfl,fun j h hj=>absurd hj (Nat.not_lt_zero _),Calm.refl _⟩
 case round=>
  obtain ⟨k,hk,rfl,HG,HC⟩:=hrel
  by_cases hlt : k < n
  ·obtain ⟨b,o,r,a,rfl,hb,hr,hat,hru⟩:=(HV.out.calm HC.out).get (k:=k) (by rw [HN.out];exact hlt)
   have hs:=HSm.out r (List.mem_of_getElem? hr)
   obtain ⟨x,hx⟩ : ∃ x,ruleErr r = x:=⟨_,rfl⟩
   have HR:=Lib.hid hr
   have HU:=Lib.hid hru
   have HX:=Lib.hid hx
   have HS:=Lib.hid hs
   have c0:=hat.c0
   have c1:=hat.c1
   have c2:=hat.c2
   have c3:=hat.c3
   have c4:=hat.c4
   clear hr hru hx hs hat
   by_cases hx0 : x = 0
   ·subst hx0
    go_wp2_with (go_at_call 34;refine (rule_v r _ a _ (HU.out.calm ((Calm.refl _).alloc _)) HS.out HX.out).mono ?_;rintro e w3 ⟨rfl,hc3⟩)
    go_roundw
    case rel=>exact ⟨k + 1,by omega,by go_num,snoc_to HR.out HX.out HG.out,HC.out.trans (((Calm.refl _).alloc _).trans hc3)⟩
    case measure=>simp [intOf];omega
   ·have hvb : (x != 0) = true:=by simpa using hx0
    have hE : Hid (viewIx v = k ∧ viewErr v = 60):=view_bad HR.out (by rw [HX.out];exact hx0) HG.out
    clear hx0
    go_wp2_with (go_at_call 34;refine (rule_v r _ a _ (HU.out.calm ((Calm.refl _).alloc _)) HS.out HX.out).mono ?_;rintro e w3 ⟨rfl,hc3⟩)
    go_ret2
    exact ⟨by rw [hE.out.1,hE.out.2];rfl,HC.out.trans (((Calm.refl _).alloc _).trans hc3)⟩
  ·obtain rfl : k = n:=by omega
   have hE : Hid (viewIx v = 0 ∧ viewErr v = if 16 < k then 61 else 0):=by
    show _ ∧ _
    have:=view_good (all_of_to HN.out HG.out)
    rw [HN.out] at this
    exact this
   by_cases h16 : 16 < k
   ·go_wp2
    go_ret2
    exact ⟨by rw [hE.out.1,hE.out.2,if_pos h16];rfl,HC.out⟩
   ·go_wp2
    go_ret2
    exact ⟨by rw [hE.out.1,hE.out.2,if_neg h16];rfl,HC.out⟩

theorem vcheck_v (v : List Rule) (i : Nat) (x : Int) (A : Option Addr) (n c : Nat) (w : World) (hv : RulesU w A v) (hn : v.length = n) (hi : viewIx v = i) (hx : viewErr v = x) :
  Calls Tryz.prog 13 #[.slice A n c] w fun e w'=>e = .returned (.tuple #[.int .i64 i,.int .i64 x]) ∧ Calm w w':=hn ▸ hi ▸ hx ▸ vcheck_c v A c w hv (fun _ _=>trivial)
theorem valid_c (v : List Rule) (b : Bool) (A : Option Addr) (n c : Nat) (w : World) (hv : RulesU w A v) (hsm : ∀ r ∈ v,SmallV r) (hn : v.length = n) (hb : decide (viewErr v = 0) = b) :
  Calls Tryz.prog 26 #[.slice A n c] w fun e w'=>e = .returned (.bool b) ∧ Calm w w':=by
 obtain ⟨i,hi⟩ : ∃ i,viewIx v = i:=⟨_,rfl⟩
 obtain ⟨x,hx⟩ : ∃ x,viewErr v = x:=⟨_,rfl⟩
 have hk:=vcheck_v v i x A n c w hv hn hi hx
 rw [hx] at hb
 clear hv hsm hn hi hx
 by_cases hx0 : x = 0
 ·subst hx0
  obtain rfl : true = b:=by simpa using hb
  go_enter Tryz.func26,Tryz.ntmps26
  go_wp2_with (go_at_call 13;refine hk.mono ?_;rintro e w2 ⟨rfl,hc2⟩)
  go_ret
  exact ⟨rfl,hc2⟩
 ·obtain rfl : false = b:=by simpa [hx0] using hb
  have h1 : (x == 0) = false:=by simpa using hx0
  have h2 : decide (x = 0) = false:=by simpa using hx0
  go_enter Tryz.func26,Tryz.ntmps26
  go_wp2_with (go_at_call 13;refine hk.mono ?_;rintro e w2 ⟨rfl,hc2⟩)
  go_ret
  exact ⟨ret_bool (by simp [hx0]),hc2⟩
def PredR (g : Nat) (Bs : Nat) (f : Rule → Bool) (w : World) : Prop:=∀ (W : World) (r : Rule) (a : Pl) (y : Bool),Calm w W → RuleU W a r → SmallV r → f r = y → Calls Tryz.prog g #[.agg #[.bool r.excl,.slice a.AL r.left.parts.length a.cl,.bool r.left.rest,.slice a.AR r.right.parts.length a.cr,.bool r.right.rest],.pointer (some ⟨Bs,0,none⟩)] W fun e w'=>e = .returned (.bool y) ∧ Calm W w'

set_option maxHeartbeats 1000000 in
theorem last_c (g Bs : Nat) (f : Rule → Bool) (v : List Rule) (x : Int) (A : Option Addr) (n c : Nat) (w : World) (eg : ∀ args w,(callFunc g args).run Tryz.prog w = .ok (.enter g args) w) (hv : RulesU w A v) (hsm : ∀ r ∈ v,SmallV r) (hn : v.length = n) (hp : PredR g Bs f w) (hx : lastIx f v = x) :
  Calls Tryz.prog 27 #[.slice A n c,.func (.func g) #[] #[.pointer (some ⟨Bs,0,none⟩)]] w fun e w'=>e = .returned (.int .i64 x) ∧ Calm w w':=by
 have hlen:=hv.len
 rw [hn] at hlen
 have HN:=Lib.hid hn
 have HV:=Lib.hid hv
 have HSm:=Lib.hid hsm
 have HP:=Lib.hid hp
 have HX:=Lib.hid hx
 clear hn hv hsm hp hx
 go_enter Tryz.func27,Tryz.ntmps27
 go_wp2_with fail
 go_loopw [5] (fun q wr=>∃ k : Nat,k ≤ n ∧ q = .int .i64 ((k : Int) - 1) ∧ Hid (∀ j r,k ≤ j → v[j]? = some r → f r = false) ∧ Hid (Calm w wr)) (fun q _=>(intOf q + 1).toNat)
 case atStart=>exact ⟨n,Nat.le_refl _,by go_num,fun j r hj hr=>absurd (List.getElem?_eq_some_iff.1 hr).1 (by rw [HN.out];omega),Calm.refl _⟩
 case round=>
  obtain ⟨k,hk,hq,HF,HC⟩:=hrel
  rcases k with _ | k
  ·obtain rfl : u5 = .int .i64 (-1):=hq
   have hE : Hid (lastIx f v = -1):=lastIx_miss fun r hr=>by
    obtain ⟨j,hj,e⟩:=List.mem_iff_getElem.1 hr
    exact HF.out j r (Nat.zero_le _) (by rw [← e];exact List.getElem?_eq_getElem hj)
   go_wp2
   go_ret
   exact ⟨ret_int (by rw [← HX.out,hE.out]),HC.out⟩
  ·have e1 : (((k + 1 : Nat) : Int) - 1) = (k : Int):=by omega
   rw [e1] at hq
   obtain rfl:=hq
   obtain ⟨b,o,r,a,rfl,hb,hr,hat,hru⟩:=(HV.out.calm HC.out).get (k:=k) (by rw [HN.out];omega)
   have hs:=HSm.out r (List.mem_of_getElem? hr)
   have hkn : k < n:=hk
   have hk0 : (0 : Int) ≤ (k : Int):=by omega
   have HR:=Lib.hid hr
   have HU:=Lib.hid hru
   have HS:=Lib.hid hs
   have c0:=hat.c0
   have c1:=hat.c1
   have c2:=hat.c2
   have c3:=hat.c3
   have c4:=hat.c4
   clear hr hru hs hat hk
   rcases hf : f r with _ | _
   ·have hcall:=HP.out wr r a false HC.out HU.out HS.out hf
    go_wp2_with (go_at_fn g;refine hcall.mono ?_;rintro e w3 ⟨rfl,hc3⟩)
    go_roundw
    case rel=>
     refine ⟨k,by omega,by go_num,fun j q hj hq=>?_,HC.out.trans hc3⟩
     by_cases e : j = k
     ·subst e
      rw [HR.out] at hq
      cases hq
      exact hf
     ·exact HF.out j q (by omega) hq
    case measure=>simp [intOf]
   ·have hcall:=HP.out wr r a true HC.out HU.out HS.out hf
    have hE : Hid (lastIx f v = k):=lastIx_hit HR.out hf fun j q hj hq=>HF.out j q (by omega) hq
    go_wp2_with (go_at_fn g;refine hcall.mono ?_;rintro e w3 ⟨rfl,hc3⟩)
    go_ret
    exact ⟨ret_int (by rw [← HX.out,hE.out]),HC.out.trans hc3⟩

set_option maxHeartbeats 1000000 in
theorem ml_pred (s : Str) (w : World) (Bs : Nat) (hs : s.length ≤ 1100000) (hM : MaxL w) (hB : Bs < w.heap.size) (cs : w.cell? ⟨Bs,0,none⟩ = some (.string (bs s))) :
  PredR 54 Bs (fun r=>matchS r.left s) w:=by
 intro W r a y hW hru hsm hy
 obtain ⟨nl,hnl⟩ : ∃ nl,r.left.parts.length = nl:=⟨_,rfl⟩
 obtain ⟨nr,hnr⟩ : ∃ nr,r.right.parts.length = nr:=⟨_,rfl⟩
 obtain ⟨lr,hlr⟩ : ∃ lr,r.left.rest = lr:=⟨_,rfl⟩
 obtain ⟨rr,hrr⟩ : ∃ rr,r.right.rest = rr:=⟨_,rfl⟩
 obtain ⟨ex,hex⟩ : ∃ ex,r.excl = ex:=⟨_,rfl⟩
 obtain ⟨w1,hw1⟩ : ∃ w1,w1 = W.alloc (.cells #[.bool ex,.slice a.AL nl a.cl,.bool lr,.slice a.AR nr a.cr,.bool rr] 44):=⟨_,rfl⟩
 have hc1 : Calm W w1:=by rw [hw1];exact (Calm.refl W).alloc _
 have hru1:=hru.calm hc1
 have hm : Calls Tryz.prog 51 #[.agg #[.slice a.AL nl a.cl,.bool lr],.string (bs s)] w1 fun e w'=>∃ A' n' c',e = .returned (.tuple #[.slice A' n' c',.bool y]) ∧ Calm w1 w':=by
  have:=match_c r.left s a.AL a.cl w1 hs (hru1.left hsm.small) hru1.lroom hru1.lcap (hM.calm (hW.trans hc1))
  rw [hnl,hlr] at this
  refine this.mono fun e w' ⟨h1,h2⟩=>?_
  have hy' : matchS r.left s = y:=hy
  rcases h1 with ⟨h3,A',c',h4,_⟩ | ⟨h3,h4⟩
  ·rw [hy'] at h3
   subst h3
   exact ⟨_,_,_,h4,h2⟩
  ·rw [hy'] at h3
   subst h3
   exact ⟨_,_,_,h4,h2⟩
 have k0 : w1.cell? ⟨Bs,0,none⟩ = some (.string (bs s)):=(hW.trans hc1).at_ cs hB
 rw [hnl,hnr,hlr,hrr,hex]
 have HW:=Lib.hid hw1
 have HC:=Lib.hid hc1
 rw [hw1] at k0
 clear hw1 hc1 hru hru1 hM cs hW hy hsm hnl hnr hlr hrr hex
 go_enter Tryz.func54,Tryz.ntmps54
 go_wp2_with (go_at_call 51;rw [← HW.out];refine hm.mono ?_;rintro e w2 ⟨A2,n2,c2,rfl,hc2⟩)
 go_ret
 exact ⟨rfl,HC.out.trans hc2⟩
theorem ml_c (s : Str) (w : World) : Calls Tryz.prog 28 #[.string (bs s)] w fun e w'=>e = .returned (.func (.func 54) #[] #[.pointer (some ⟨w.heap.size,0,none⟩)]) ∧ w' = w.alloc (.cells #[.string (bs s)] 9):=by
 have hmf : ∀ (fn : Fn) (first cap : Array Value) (w : World),(Instr.makeFunc fn first cap).run Tryz.prog w = .ok (.func fn first cap) w:=fun _ _ _ _=>rfl
 go_enter Tryz.func28,Tryz.ntmps28
 go_wp2
 go_ret
 exact ⟨rfl,rfl⟩
theorem ml_last (s : Str) (v : List Rule) (x : Int) (A : Option Addr) (n c : Nat) (w : World) (hs : s.length ≤ 1100000) (hM : MaxL w) (hv : RulesU w A v) (hsm : ∀ r ∈ v,SmallV r) (hn : v.length = n) (hx : lastIx (fun r=>matchS r.left s) v = x) :
  Calls Tryz.prog 27 #[.slice A n c,.func (.func 54) #[] #[.pointer (some ⟨w.heap.size,0,none⟩)]] (w.alloc (.cells #[.string (bs s)] 9)) fun e w'=>e = .returned (.int .i64 x) ∧ Calm w w':=by
 have hc1 : Calm w (w.alloc (.cells #[.string (bs s)] 9)):=(Calm.refl w).alloc _
 refine (last_c 54 w.heap.size (fun r=>matchS r.left s) v x A n c _ (enters_of Tryz.func54 (by kernel_rfl) rfl) (hv.calm hc1) hsm hn (ml_pred s _ w.heap.size hs (hM.calm hc1) (by simp) (new_str w rfl)) hx).mono ?_
 rintro e w' ⟨h1,h2⟩
 exact ⟨h1,hc1.trans h2⟩

set_option maxHeartbeats 1000000 in
theorem mr_pred (s : Str) (w : World) (Bs : Nat) (hs : s.length ≤ 1100000) (hM : MaxL w) (hB : Bs < w.heap.size) (cs : w.cell? ⟨Bs,0,none⟩ = some (.string (bs s))) :
  PredR 55 Bs (fun r=>matchS r.right s) w:=by
 intro W r a y hW hru hsm hy
 obtain ⟨nl,hnl⟩ : ∃ nl,r.left.parts.length = nl:=⟨_,rfl⟩
 obtain ⟨nr,hnr⟩ : ∃ nr,r.right.parts.length = nr:=⟨_,rfl⟩
 obtain ⟨lr,hlr⟩ : ∃ lr,r.left.rest = lr:=⟨_,rfl⟩
 obtain ⟨rr,hrr⟩ : ∃ rr,r.right.rest = rr:=⟨_,rfl⟩
 obtain ⟨ex,hex⟩ : ∃ ex,r.excl = ex:=⟨_,rfl⟩
 obtain ⟨w1,hw1⟩ : ∃ w1,w1 = W.alloc (.cells #[.bool ex,.slice a.AL nl a.cl,.bool lr,.slice a.AR nr a.cr,.bool rr] 44):=⟨_,rfl⟩
 have hc1 : Calm W w1:=by rw [hw1];exact (Calm.refl W).alloc _
 have hru1:=hru.calm hc1
 have hm : Calls Tryz.prog 51 #[.agg #[.slice a.AR nr a.cr,.bool rr],.string (bs s)] w1 fun e w'=>∃ A' n' c',e = .returned (.tuple #[.slice A' n' c',.bool y]) ∧ Calm w1 w':=by
  have:=match_c r.right s a.AR a.cr w1 hs (hru1.right hsm.small) hru1.rroom hru1.rcap (hM.calm (hW.trans hc1))
  rw [hnr,hrr] at this
  refine this.mono fun e w' ⟨h1,h2⟩=>?_
  have hy' : matchS r.right s = y:=hy
  rcases h1 with ⟨h3,A',c',h4,_⟩ | ⟨h3,h4⟩
  ·rw [hy'] at h3
   subst h3
   exact ⟨_,_,_,h4,h2⟩
  ·rw [hy'] at h3
   subst h3
   exact ⟨_,_,_,h4,h2⟩
 have k0 : w1.cell? ⟨Bs,0,none⟩ = some (.string (bs s)):=(hW.trans hc1).at_ cs hB
 rw [hnl,hnr,hlr,hrr,hex]
 have HW:=Lib.hid hw1
 have HC:=Lib.hid hc1
 rw [hw1] at k0
 clear hw1 hc1 hru hru1 hM cs hW hy hsm hnl hnr hlr hrr hex
 go_enter Tryz.func55,Tryz.ntmps55
 go_wp2_with (go_at_call 51;rw [← HW.out];refine hm.mono ?_;rintro e w2 ⟨A2,n2,c2,rfl,hc2⟩)
 go_ret
 exact ⟨rfl,HC.out.trans hc2⟩
theorem mr_c (s : Str) (w : World) : Calls Tryz.prog 29 #[.string (bs s)] w fun e w'=>e = .returned (.func (.func 55) #[] #[.pointer (some ⟨w.heap.size,0,none⟩)]) ∧ w' = w.alloc (.cells #[.string (bs s)] 9):=by
 have hmf : ∀ (fn : Fn) (first cap : Array Value) (w : World),(Instr.makeFunc fn first cap).run Tryz.prog w = .ok (.func fn first cap) w:=fun _ _ _ _=>rfl
 go_enter Tryz.func29,Tryz.ntmps29
 go_wp2
 go_ret
 exact ⟨rfl,rfl⟩
theorem mr_last (s : Str) (v : List Rule) (x : Int) (A : Option Addr) (n c : Nat) (w : World) (hs : s.length ≤ 1100000) (hM : MaxL w) (hv : RulesU w A v) (hsm : ∀ r ∈ v,SmallV r) (hn : v.length = n) (hx : lastIx (fun r=>matchS r.right s) v = x) :
  Calls Tryz.prog 27 #[.slice A n c,.func (.func 55) #[] #[.pointer (some ⟨w.heap.size,0,none⟩)]] (w.alloc (.cells #[.string (bs s)] 9)) fun e w'=>e = .returned (.int .i64 x) ∧ Calm w w':=by
 have hc1 : Calm w (w.alloc (.cells #[.string (bs s)] 9)):=(Calm.refl w).alloc _
 refine (last_c 55 w.heap.size (fun r=>matchS r.right s) v x A n c _ (enters_of Tryz.func55 (by kernel_rfl) rfl) (hv.calm hc1) hsm hn (mr_pred s _ w.heap.size hs (hM.calm hc1) (by simp) (new_str w rfl)) hx).mono ?_
 rintro e w' ⟨h1,h2⟩
 exact ⟨h1,hc1.trans h2⟩
end Go.Proofs.YthopphabeddnfaaGreatDoor
