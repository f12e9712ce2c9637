/- Walks: the two Checks of a region, at arguments of at most 1048576 values (out of the text of the small ones, by program). -/
import Derived.Test.YtnlnclefedohkaaGreatDoorZCopyP
import Derived.Test.YtnlnclefedohkaaGreatDoorZConcatP
import Derived.Test.YtnlnclefedohkaaGreatDoorZEntM
import Derived.Test.YtnlnclefedohkaaGreatDoorZWalkI
import Derived.Test.YtnlnclefedohkaaGreatDoorZCheckG
set_option linter.unusedVariables false
set_option linter.unusedSimpArgs false
namespace Go.Proofs.YtnlnclefedohkaaGreatDoor
open Go Go.RowKit Sy

theorem pat_eq_of {p q : Pat} (hr : p.rest = q.rest) (hl : p.parts.length = q.parts.length) (h : ∀ (j : Nat) x y,p.parts[j]? = some x → q.parts[j]? = some y → x = y) : p = q:=by
 obtain ⟨ps,pr⟩:=p
 obtain ⟨qs,qr⟩:=q
 simp only at hr hl h
 subst hr
 congr 1
 apply List.ext_getElem hl
 intro j h1 h2
 exact h j _ _ (List.getElem?_eq_getElem h1) (List.getElem?_eq_getElem h2)

set_option maxHeartbeats 2000000 in
theorem same_c (p q : Pat) (v : Bool) (A : Option Addr) (c : Nat) (A' : Option Addr) (c' : Nat) (w : World) (hp : StrsU w A p.parts) (hq : StrsU w A' q.parts) (hv : decide (p = q) = v) :
  Calls Tryz.prog 32 #[.agg #[.slice A p.parts.length c,.bool p.rest],.agg #[.slice A' q.parts.length c',.bool q.rest]] w fun e w'=>e = .returned (.bool v) ∧ Calm w w':=by
 obtain ⟨n,hn⟩ : ∃ n,p.parts.length = n:=⟨_,rfl⟩
 obtain ⟨m,hm⟩ : ∃ m,q.parts.length = m:=⟨_,rfl⟩
 obtain ⟨re,hre⟩ : ∃ re,p.rest = re:=⟨_,rfl⟩
 obtain ⟨re',hre'⟩ : ∃ re',q.rest = re':=⟨_,rfl⟩
 have hlen:=hp.len
 have hlen':=hq.len
 obtain ⟨w1,hw1⟩ : ∃ w1,w1 = (w.alloc (.cells #[.slice A n c,.bool re] 40)).alloc (.cells #[.slice A' m c',.bool re'] 40):=⟨_,rfl⟩
 have hc1 : Calm w w1:=by rw [hw1];exact ((Calm.refl w).alloc _).alloc _
 have k3 : w1.cell? ⟨w.heap.size + 1,0,none⟩ = some (.slice A' m c'):=by rw [hw1];simp [go_sem]
 have HP:=Lib.hid (hp.calm hc1)
 have HQ:=Lib.hid (hq.calm hc1)
 have HC:=Lib.hid hc1
 have HW:=Lib.hid hw1
 have HN:=Lib.hid (And.intro hn (And.intro hm (And.intro hre hre')))
 have HV:=Lib.hid hv
 rw [hn,hm,hre,hre']
 rw [hn] at hlen
 rw [hm] at hlen'
 clear hp hq hn hm hre hre' hv hc1 hw1
 by_cases hrr : re = re'
 ·by_cases hnm : n = m
  ·subst hrr hnm
   go_enter Tryz.func32,Tryz.ntmps32
   go_wp2
   rw [← HW.out]
   go_loop [24] (fun u=>∃ k : Nat,k ≤ n ∧ u = .int .i64 k ∧ Hid (∀ (j : Nat) x y,j < k → p.parts[j]? = some x → q.parts[j]? = some y → x = y)) (fun u=>n - (intOf u).toNat)
   case atStart=>exact ⟨0,Nat.zero_le _,rfl,fun j x y hj=>absurd hj (Nat.not_lt_zero _)⟩
   case round=>
    obtain ⟨k,hk,rfl,HI⟩:=hrel
    by_cases hlt : k < n
    ·obtain ⟨b,o,x,rfl,hb,hx,hxl,hcx⟩:=HP.out.get (k:=k) (by rw [HN.out.1];exact hlt)
     obtain ⟨b',o',y,rfl,hb',hy,hyl,hcy⟩:=HQ.out.get (k:=k) (by rw [HN.out.2.1];exact hlt)
     have HX:=Lib.hid (And.intro hx hy)
     clear hx hy
     by_cases hxy : x = y
     ·subst hxy
      go_wp2
      go_round
      case rel=>
       refine ⟨k + 1,by omega,by go_num,fun j z z' hj hz hz'=>?_⟩
       by_cases e : j = k
       ·subst e
        rw [HX.out.1] at hz
        rw [HX.out.2] at hz'
        cases hz
        cases hz'
        rfl
       ·exact HI.out j z z' (by omega) hz hz'
      case measure=>simp [intOf];omega
     ·have hE : Hid (v = false):=by
       show v = false
       rw [← HV.out,decide_eq_false_iff_not]
       intro e
       have h1:=HX.out.1
       rw [e,HX.out.2] at h1
       exact hxy (Option.some.inj h1).symm
      have hb1 : (x == y) = false:=by simpa using hxy
      clear hxy
      go_wp2
      go_ret
      exact ⟨ret_bool (by rw [hE.out]),HC.out⟩
    ·obtain rfl : k = n:=by omega
     have hE : Hid (v = true):=by
      show v = true
      rw [← HV.out,decide_eq_true_eq]
      exact pat_eq_of (HN.out.2.2.1.trans HN.out.2.2.2.symm) (HN.out.1.trans HN.out.2.1.symm) fun j x y hx hy=>HI.out j x y (by rw [← HN.out.1];exact (List.getElem?_eq_some_iff.1 hx).1) hx hy
     go_wp2
     go_ret
     exact ⟨ret_bool (by rw [hE.out]),HC.out⟩
  ·have hE : Hid (v = false):=by
    show v = false
    rw [← HV.out,decide_eq_false_iff_not]
    intro e
    exact hnm (by rw [← HN.out.1,← HN.out.2.1,e])
   subst hrr
   have hb1 : ((n : Int) != (m : Int)) = true:=by simp;omega
   clear hnm
   go_enter Tryz.func32,Tryz.ntmps32
   go_wp2
   rw [← HW.out]
   go_ret
   exact ⟨ret_bool (by rw [hE.out]),HC.out⟩
 ·have hE : Hid (v = false):=by
   show v = false
   rw [← HV.out,decide_eq_false_iff_not]
   intro e
   exact hrr (by rw [← HN.out.2.2.1,← HN.out.2.2.2,e])
  have hb1 : (re != re') = true:=by simpa using hrr
  cases re <;> cases re'
  all_goals first | exact absurd rfl hrr | skip
  all_goals
   clear hrr hb1
   go_enter Tryz.func32,Tryz.ntmps32
   go_wp2
   rw [← HW.out]
   go_ret
   exact ⟨ret_bool (by rw [hE.out]),HC.out⟩

end Go.Proofs.YtnlnclefedohkaaGreatDoor
set_option linter.unusedVariables false
set_option linter.unusedSimpArgs false
namespace Go.Proofs.YtnlnclefedohkaaGreatDoor
open Go Go.RowKit Sy
structure PatsV (w : World) (A : Option Addr) (ps : List Pat) : Prop where
 len : ps.length ≤ 1048576
 at_ : 0 < ps.length → ∃ b o,A = some ⟨b,o,none⟩ ∧ b < w.heap.size ∧ ∀ (k : Nat) p,ps[k]? = some p → ∃ Ak ck,w.cell? ⟨b,o + k * 2,none⟩ = some (.slice Ak p.parts.length ck) ∧ w.cell? ⟨b,o + k * 2 + 1,none⟩ = some (.bool p.rest) ∧ StrsU w Ak p.parts
theorem PatsV.calm {w w' : World} {A : Option Addr} {ps : List Pat} (h : PatsV w A ps) (hc : Calm w w') : PatsV w' A ps:=
 ⟨h.len,fun h0=>by
  obtain ⟨b,o,rfl,hb,hk⟩:=h.at_ h0
  refine ⟨b,o,rfl,Nat.lt_of_lt_of_le hb hc.size,fun k p hp=>?_⟩
  obtain ⟨Ak,ck,h1,h2,h3⟩:=hk k p hp
  exact ⟨Ak,ck,(hc.cell (p:=⟨b,o + k * 2,none⟩) hb).trans h1,(hc.cell (p:=⟨b,o + k * 2 + 1,none⟩) hb).trans h2,h3.calm hc⟩⟩
theorem PatsV.get {w : World} {A : Option Addr} {ps : List Pat} (h : PatsV w A ps) {k : Nat} (hk : k < ps.length) : ∃ b o p Ak ck,A = some ⟨b,o,none⟩ ∧ b < w.heap.size ∧ ps[k]? = some p ∧ w.cell? ⟨b,o + k * 2,none⟩ = some (.slice Ak p.parts.length ck) ∧ w.cell? ⟨b,o + k * 2 + 1,none⟩ = some (.bool p.rest) ∧ StrsU w Ak p.parts:=by
 obtain ⟨b,o,hA,hb,hc⟩:=h.at_ (by omega)
 obtain ⟨Ak,ck,h1,h2,h3⟩:=hc k _ (List.getElem?_eq_getElem hk)
 exact ⟨b,o,ps[k],Ak,ck,hA,hb,List.getElem?_eq_getElem hk,h1,h2,h3⟩
theorem PatsR.toV {w : World} {A : Option Addr} {ps : List Pat} (h : PatsR w A ps) : PatsV w A ps:=
 ⟨by have:=h.len;omega,fun h0=>by
  obtain ⟨b,o,hA,hb,hk⟩:=h.at_ h0
  refine ⟨b,o,hA,hb,fun k p hp=>?_⟩
  obtain ⟨Ak,ck,h1,h2,_,_,h5⟩:=hk k p hp
  exact ⟨Ak,ck,h1,h2,h5.toU⟩⟩
theorem PatsN.toV {w : World} {B : Nat} {A : Option Addr} {c : Nat} {ps : List Pat} (h : PatsN w B A c ps) (hl : ps.length ≤ 1048576) : PatsV w A ps:=by
 obtain ⟨l,h1,h2,h3⟩:=h.ex
 refine ⟨hl,fun h0=>?_⟩
 rcases h2 with ⟨_,h2⟩ | ⟨g,hA,hg,hr⟩
 ·rw [h2] at h0
  exact absurd h0 (Nat.lt_irrefl _)
 ·refine ⟨g,0,hA,hr.lt,fun k p hp=>?_⟩
  rw [← h1,List.getElem?_map] at hp
  obtain ⟨x,hx,rfl⟩:=Option.map_eq_some_iff.1 hp
  exact ⟨x.A,x.c,hr.cell k x hx 0 _ rfl,hr.cell k x hx 1 _ rfl,(h3 x (List.mem_of_getElem? hx)).new.u⟩
theorem same_v (p : Pat) (n c c' : Nat) (re : Bool) (A A' : Option Addr) (w : World) (hp : StrsU w A p.parts) (hq : StrsU w A' p.parts) (hn : p.parts.length = n) (hre : p.rest = re) :
  Calls Tryz.prog 32 #[.agg #[.slice A n c,.bool re],.agg #[.slice A' n c',.bool re]] w fun e w'=>e = .returned (.bool true) ∧ Calm w w':=by
 subst hn hre
 exact same_c p p true A c A' c' w hp hq (by simp)

set_option maxHeartbeats 4000000 in
theorem rsameg_c (b : Pat) (hs : List Pat) (n m : Nat) (re : Bool) (A : Option Addr) (c : Nat) (HA : Option Addr) (hc : Nat) (A' : Option Addr) (c' : Nat) (HA' : Option Addr) (hc' : Nat) (w : World) (hb : StrsU w A b.parts) (hb' : StrsU w A' b.parts) (hh : PatsV w HA hs) (hh' : PatsV w HA' hs) (hn : b.parts.length = n) (hm : hs.length = m) (hre : b.rest = re) :
  Calls Tryz.prog 33 #[.agg #[.slice A n c,.bool re,.slice HA m hc],.agg #[.slice A' n c',.bool re,.slice HA' m hc']] w fun e w'=>e = .returned (.bool true) ∧ Calm w w':=by
 have hml:=hh.len
 rw [hm] at hml
 obtain ⟨w1,hw1⟩ : ∃ w1,w1 = (w.alloc (.cells #[.slice A n c,.bool re,.slice HA m hc] 68)).alloc (.cells #[.slice A' n c',.bool re,.slice HA' m hc'] 68):=⟨_,rfl⟩
 have hc1 : Calm w w1:=by rw [hw1];exact ((Calm.refl w).alloc _).alloc _
 have hs0 : w.heap.size < w1.heap.size:=by rw [hw1];simp;omega
 have hs1 : w.heap.size + 1 < w1.heap.size:=by rw [hw1];simp
 have k2 : w1.cell? ⟨w.heap.size,2,none⟩ = some (.slice HA m hc):=by rw [hw1];simp [go_sem]
 have j2 : w1.cell? ⟨w.heap.size + 1,2,none⟩ = some (.slice HA' m hc'):=by rw [hw1];simp [go_sem]
 have hsm:=same_v b n c c' re A A' w1 (hb.calm hc1) (hb'.calm hc1) hn hre
 have HW:=Lib.hid hw1
 have HC:=Lib.hid hc1
 have HK:=Lib.hid (And.intro k2 (And.intro j2 (And.intro hs0 hs1)))
 have HH:=Lib.hid (hh.calm hc1)
 have HH':=Lib.hid (hh'.calm hc1)
 have HM:=Lib.hid hm
 clear hw1 hc1 hb hb' hh hh' hn hm hre k2 j2 hs0 hs1
 go_enter Tryz.func33,Tryz.ntmps33
 go_wp2_with fail
 rw [← HW.out]
 refine hsm.mono ?_
 rintro e w2 ⟨rfl,hc2⟩
 have k2:=hc2.at_ HK.out.1 HK.out.2.2.1
 have j2:=hc2.at_ HK.out.2.1 HK.out.2.2.2
 have HC2:=Lib.hid hc2
 clear hc2 hsm
 go_wp2_with fail
 go_loopw [25] (fun u wr=>∃ k : Nat,k ≤ m ∧ u = .int .i64 k ∧ Hid (Calm w1 wr)) (fun u _=>m - (intOf u).toNat)
 case atStart=>exact ⟨0,Nat.zero_le _,rfl,HC2.out⟩
 case round=>
  obtain ⟨k,hk,rfl,HCr⟩:=hrel
  by_cases hlt : k < m
  ·obtain ⟨bb,o,p,Ak,ck,rfl,hbb,hp,c0,c1,hst⟩:=(HH.out.calm HCr.out).get (k:=k) (by rw [HM.out];exact hlt)
   obtain ⟨bb',o',p',Ak',ck',rfl,hbb',hp',d0,d1,hst'⟩:=(HH'.out.calm HCr.out).get (k:=k) (by rw [HM.out];exact hlt)
   obtain rfl : p = p':=by rw [hp] at hp';exact Option.some.inj hp'
   obtain ⟨wB,hwB⟩ : ∃ wB,wB = wr.alloc (.cells #[.slice Ak p.parts.length ck,.bool p.rest] 40):=⟨_,rfl⟩
   have hcB : Calm wr wB:=by rw [hwB];exact (Calm.refl wr).alloc _
   have hbB : bb' < wB.heap.size:=Nat.lt_of_lt_of_le hbb' hcB.size
   have t0 : wB.cell? ⟨wr.heap.size,0,none⟩ = some (.slice Ak p.parts.length ck):=by rw [hwB];simp [go_sem]
   have t1 : wB.cell? ⟨wr.heap.size,1,none⟩ = some (.bool p.rest):=by rw [hwB];simp [go_sem]
   have tlt : wr.heap.size < wB.heap.size:=by rw [hwB];simp [go_sem]
   have K1:=Lib.hid (fun q : CalmTo wB=>same_v p p.parts.length ck ck' p.rest Ak Ak' q.w ((hst.calm hcB).calm q.h) ((hst'.calm hcB).calm q.h) rfl rfl)
   have hj:=(HCr.out.trans hcB).at_ HK.out.2.1 HK.out.2.2.2
   have hjl:=Nat.lt_of_lt_of_le HK.out.2.2.2 (HCr.out.trans hcB).size
   have e0:=fun q : CalmTo wB=>q.cell t0 tlt
   have e1:=fun q : CalmTo wB=>q.cell t1 tlt
   have e2:=fun q : CalmTo wB=>q.cell (hcB.at_ d0 hbb') hbB
   have e3:=fun q : CalmTo wB=>q.cell (hcB.at_ d1 hbb') hbB
   have e4:=fun q : CalmTo wB=>q.cell hj hjl
   have HWB:=Lib.hid hwB
   have HCB:=Lib.hid (HCr.out.trans hcB)
   clear hwB hcB t0 t1 tlt hst hst' hp hp' d0 d1 hj hjl hbB
   go_wp2_with fail
   rw [← HWB.out]
   refine wp_region_calm (by kernel_rfl) (by kernel_rfl) ?_
   repeat (go_big_quiet_step ((go_at_call 32;exact calmOf (K1.out _))))
   refine wpQuiet_nil ?_
   intro w7 hc7
   have HC7:=Lib.hid (HCB.out.trans hc7)
   clear hc7 e0 e1 e2 e3 e4
   go_wp2
   go_roundw
   case rel=>exact ⟨k + 1,by omega,by go_num,HC7.out⟩
   case measure=>simp [intOf];omega
  ·obtain rfl : k = m:=by omega
   go_wp2
   go_ret
   exact ⟨rfl,HC.out.trans HCr.out⟩
end Go.Proofs.YtnlnclefedohkaaGreatDoor
set_option linter.unusedVariables false
set_option linter.unusedSimpArgs false
namespace Go.Proofs.YtnlnclefedohkaaGreatDoor
open Go Go.RowKit Sy
structure PatsU (w : World) (A : Option Addr) (ps : List Pat) : Prop where
 len : ps.length ≤ 1048576
 at_ : 0 < ps.length → ∃ b o,A = some ⟨b,o,none⟩ ∧ b < w.heap.size ∧ ∀ (k : Nat) p,ps[k]? = some p → ∃ Ak ck,w.cell? ⟨b,o + k * 2,none⟩ = some (.slice Ak p.parts.length ck) ∧ w.cell? ⟨b,o + k * 2 + 1,none⟩ = some (.bool p.rest) ∧ p.parts.length ≤ ck ∧ ck ≤ 9223372036854775807 ∧ StrsU w Ak p.parts
theorem PatsU.calm {w w' : World} {A : Option Addr} {ps : List Pat} (h : PatsU w A ps) (hc : Calm w w') : PatsU w' A ps:=
 ⟨h.len,fun h0=>by
  obtain ⟨b,o,rfl,hb,hk⟩:=h.at_ h0
  refine ⟨b,o,rfl,Nat.lt_of_lt_of_le hb hc.size,fun k p hp=>?_⟩
  obtain ⟨Ak,ck,h1,h2,h3,h4,h5⟩:=hk k p hp
  exact ⟨Ak,ck,(hc.cell (p:=⟨b,o + k * 2,none⟩) hb).trans h1,(hc.cell (p:=⟨b,o + k * 2 + 1,none⟩) hb).trans h2,h3,h4,h5.calm hc⟩⟩
theorem PatsU.get {w : World} {A : Option Addr} {ps : List Pat} (h : PatsU w A ps) {k : Nat} (hk : k < ps.length) : ∃ b o p Ak ck,A = some ⟨b,o,none⟩ ∧ b < w.heap.size ∧ ps[k]? = some p ∧ w.cell? ⟨b,o + k * 2,none⟩ = some (.slice Ak p.parts.length ck) ∧ w.cell? ⟨b,o + k * 2 + 1,none⟩ = some (.bool p.rest) ∧ p.parts.length ≤ ck ∧ ck ≤ 9223372036854775807 ∧ StrsU w Ak p.parts:=by
 obtain ⟨b,o,hA,hb,hc⟩:=h.at_ (by omega)
 obtain ⟨Ak,ck,h1,h2,h3,h4,h5⟩:=hc k _ (List.getElem?_eq_getElem hk)
 exact ⟨b,o,ps[k],Ak,ck,hA,hb,List.getElem?_eq_getElem hk,h1,h2,h3,h4,h5⟩
theorem PatsU.toR {w : World} {A : Option Addr} {ps : List Pat} (h : PatsU w A ps) (h1 : ps.length ≤ 16384) (h2 : ∀ p ∈ ps,p.parts.length ≤ 16384 ∧ ∀ l ∈ p.parts,l.length ≤ 16384) : PatsR w A ps:=
 ⟨h1,fun h0=>by
  obtain ⟨b,o,hA,hb,hk⟩:=h.at_ h0
  refine ⟨b,o,hA,hb,fun k p hp=>?_⟩
  obtain ⟨Ak,ck,g1,g2,g3,g4,g5⟩:=hk k p hp
  have:=h2 p (List.mem_of_getElem? hp)
  exact ⟨Ak,ck,g1,g2,g3,g4,g5.toR this.1 this.2⟩⟩
theorem PatsU.places {w : World} {A : Option Addr} {ps : List Pat} (h : PatsU w A ps) : ∃ l : List NewP,l.map (·.p) = ps ∧ ReadX encP 2 w A l ∧ ∀ x ∈ l,x.p.parts.length ≤ x.c ∧ x.c ≤ 9223372036854775807 ∧ StrsU w x.A x.p.parts:=by
 rcases Nat.eq_zero_or_pos ps.length with h0 | h0
 ·have : ps = []:=List.eq_nil_of_length_eq_zero h0
  subst this
  exact ⟨[],rfl,fun h=>absurd rfl h,fun x hx=>by cases hx⟩
 ·obtain ⟨b,o,hA,hb,hk⟩:=h.at_ h0
  have each : ∀ k,k < ps.length → ∃ x : NewP,ps[k]? = some x.p ∧ w.cell? ⟨b,o + k * 2,none⟩ = some (.slice x.A x.p.parts.length x.c) ∧ w.cell? ⟨b,o + k * 2 + 1,none⟩ = some (.bool x.p.rest) ∧ x.p.parts.length ≤ x.c ∧ x.c ≤ 9223372036854775807 ∧ StrsU w x.A x.p.parts:=fun k hk2=>by
   obtain ⟨Ak,ck,g1,g2,g3,g4,g5⟩:=hk k _ (List.getElem?_eq_getElem hk2)
   exact ⟨⟨Ak,ck,ps[k]⟩,List.getElem?_eq_getElem hk2,g1,g2,g3,g4,g5⟩
  obtain ⟨f,hf⟩ : ∃ f : Nat → NewP,∀ k,k < ps.length → ps[k]? = some (f k).p ∧ w.cell? ⟨b,o + k * 2,none⟩ = some (.slice (f k).A (f k).p.parts.length (f k).c) ∧ w.cell? ⟨b,o + k * 2 + 1,none⟩ = some (.bool (f k).p.rest) ∧ (f k).p.parts.length ≤ (f k).c ∧ (f k).c ≤ 9223372036854775807 ∧ StrsU w (f k).A (f k).p.parts:=by
   refine ⟨fun k=>if hk2 : k < ps.length then Classical.choose (each k hk2) else default,fun k hk2=>?_⟩
   simp only [dif_pos hk2]
   exact Classical.choose_spec (each k hk2)
  refine ⟨(List.range ps.length).map f,?_,fun _=>⟨b,o,hA,hb,fun k x hx i u hu=>?_⟩,fun x hx=>?_⟩
  ·refine List.ext_getElem? fun k=>?_
   rw [List.getElem?_map,List.getElem?_map]
   by_cases hk2 : k < ps.length
   ·rw [List.getElem?_range hk2,(hf k hk2).1]
    rfl
   ·rw [List.getElem?_eq_none (by simpa using hk2),List.getElem?_eq_none (by omega)]
    rfl
  ·rw [List.getElem?_map] at hx
   obtain ⟨k',hk',rfl⟩:=Option.map_eq_some_iff.1 hx
   obtain ⟨hlt,he⟩:=List.getElem?_eq_some_iff.1 hk'
   rw [List.getElem_range] at he
   subst he
   rw [List.length_range] at hlt
   obtain ⟨_,g1,g2,_⟩:=hf k hlt
   match i,hu with
   |0,hu=>
    obtain rfl:=Option.some.inj hu
    exact g1
   |1,hu=>
    obtain rfl:=Option.some.inj hu
    exact g2
   |(n + 2),hu=>simp [encP] at hu
  ·obtain ⟨k,hk2,rfl⟩:=List.mem_map.1 hx
   obtain ⟨_,_,_,g3,g4,g5⟩:=hf k (List.mem_range.1 hk2)
   exact ⟨g3,g4,g5⟩
structure EntA (w : World) (z : NewE) : Prop where
 l : StrsU w z.LA z.e.left.parts
 r : StrsU w z.RA z.e.right.parts
 h : PatsU w z.HA z.e.hs
 lroom : z.e.left.parts.length ≤ z.lc
 rroom : z.e.right.parts.length ≤ z.rc
 hroom : z.e.hs.length ≤ z.hc
 lcap : z.lc ≤ 9223372036854775807
 rcap : z.rc ≤ 9223372036854775807
 hcap : z.hc ≤ 9223372036854775807
theorem EntA.calm {w w' : World} {z : NewE} (h : EntA w z) (hc : Calm w w') : EntA w' z:=⟨h.l.calm hc,h.r.calm hc,h.h.calm hc,h.lroom,h.rroom,h.hroom,h.lcap,h.rcap,h.hcap⟩
def NewE.pl (z : NewE) : Pl:=⟨z.LA,z.lc,z.RA,z.rc⟩
theorem EntA.rule {w : World} {z : NewE} (h : EntA w z) : RuleU w z.pl z.e.rule:=⟨h.l,h.r,h.lroom,h.rroom,h.lcap,h.rcap⟩
structure SizeE (K : Nat) (x : Ent) : Prop where
 lp : x.left.parts.length ≤ 300
 ls : ∀ s ∈ x.left.parts,s.length ≤ K
 rp : x.right.parts.length ≤ 300
 rs : ∀ s ∈ x.right.parts,s.length ≤ K
 h : ∀ p ∈ x.hs,p.parts.length ≤ 300 ∧ ∀ s ∈ p.parts,s.length ≤ K
abbrev SmallE (x : Ent) : Prop:=SizeE 250 x
theorem SizeE.mono {K L : Nat} {x : Ent} (h : SizeE K x) (hk : K ≤ L) : SizeE L x:=⟨h.lp,fun s hs=>Nat.le_trans (h.ls s hs) hk,h.rp,fun s hs=>Nat.le_trans (h.rs s hs) hk,fun p hp=>⟨(h.h p hp).1,fun s hs=>Nat.le_trans ((h.h p hp).2 s hs) hk⟩⟩
theorem EntA.u {w : World} {z : NewE} (h : EntA w z) (hs : SmallE z.e) (hl : z.e.hs.length ≤ 16384) : EntU w z:=
 ⟨⟨h.l.toR (by have:=hs.lp;omega) (fun s hs'=>by have:=hs.ls s hs';omega),h.lroom,h.lcap⟩,⟨h.r.toR (by have:=hs.rp;omega) (fun s hs'=>by have:=hs.rs s hs';omega),h.rroom,h.rcap⟩,
  h.h.toR hl (fun p hp=>⟨by have:=(hs.h p hp).1;omega,fun s hs'=>by have:=(hs.h p hp).2 s hs';omega⟩),h.hroom,h.hcap⟩
def EntsA (w : World) (A : Option Addr) (es : List Ent) : Prop:=es.length ≤ 1048576 ∧ ∃ zs : List NewE,zs.map (·.e) = es ∧ ReadX encE 5 w A zs ∧ ∀ z ∈ zs,EntA w z
theorem EntsA.calm {w w' : World} {A : Option Addr} {es : List Ent} (h : EntsA w A es) (hc : Calm w w') : EntsA w' A es:=by
 obtain ⟨h0,zs,h1,h2,h3⟩:=h
 exact ⟨h0,zs,h1,h2.calm hc,fun z hz=>(h3 z hz).calm hc⟩
theorem EntsA.get {w : World} {A : Option Addr} {es : List Ent} (h : EntsA w A es) {k : Nat} (hk : k < es.length) : ∃ (b o : Nat) (z : NewE),A = some ⟨b,o,none⟩ ∧ b < w.heap.size ∧ es[k]? = some z.e ∧
  w.cell? ⟨b,o + k * 5,none⟩ = some (.slice z.LA z.e.left.parts.length z.lc) ∧ w.cell? ⟨b,o + k * 5 + 1,none⟩ = some (.bool z.e.left.rest) ∧ w.cell? ⟨b,o + k * 5 + 2,none⟩ = some (.slice z.RA z.e.right.parts.length z.rc) ∧ w.cell? ⟨b,o + k * 5 + 3,none⟩ = some (.bool z.e.right.rest) ∧ w.cell? ⟨b,o + k * 5 + 4,none⟩ = some (.slice z.HA z.e.hs.length z.hc) ∧ EntA w z:=by
 obtain ⟨_,zs,rfl,h2,h3⟩:=h
 rw [List.length_map] at hk
 obtain ⟨b,o,hA,hb,hc⟩:=h2 (fun e=>by rw [e] at hk;simp at hk)
 have hz:=List.getElem?_eq_getElem hk
 exact ⟨b,o,zs[k],hA,hb,by rw [List.getElem?_map,hz];rfl,hc k _ hz 0 _ rfl,hc k _ hz 1 _ rfl,hc k _ hz 2 _ rfl,hc k _ hz 3 _ rfl,hc k _ hz 4 _ rfl,h3 _ (List.mem_of_getElem? hz)⟩
end Go.Proofs.YtnlnclefedohkaaGreatDoor
set_option linter.unusedVariables false
set_option linter.unusedSimpArgs false
namespace Go.Proofs.YtnlnclefedohkaaGreatDoor
open Go Go.RowKit Sy

theorem pcheckU_v (p : Pat) (v : Int) (A : Option Addr) (c : Nat) (w : World) (hv : patErr p = v) (hr : StrsU w A p.parts) (hnc : p.parts.length ≤ c) (hc47 : c ≤ 9223372036854775807) : Calls Tryz.prog 64 #[.agg #[.slice A p.parts.length c,.bool p.rest]] w fun e w'=>e = .returned (.int .i64 v) ∧ Calm w w':=hv ▸ pcheckG_c p A c w hr.toG hnc hc47
theorem rcheckU_v (p : Pat) (v : Int) (A : Option Addr) (c : Nat) (w : World) (hv : patErr p = v) (hr : StrsU w A p.parts) (hnc : p.parts.length ≤ c) (hc47 : c ≤ 9223372036854775807) : Calls Tryz.prog 71 #[.agg #[.slice A p.parts.length c,.bool p.rest]] w fun e w'=>e = .returned (.int .i64 v) ∧ Calm w w':=hv ▸ rcheckG_c p A c w hr.toG hnc hc47

set_option maxHeartbeats 1000000 in
theorem gchecku_c (b : Pat) (hs : List Pat) (A : Option Addr) (c : Nat) (HA : Option Addr) (hc : Nat) (w : World) (hr : StrsU w A b.parts) (hnc : b.parts.length ≤ c) (hc47 : c ≤ 9223372036854775807) (hh : PatsU w HA hs) :
  Calls Tryz.prog 80 #[.agg #[.slice A b.parts.length c,.bool b.rest,.slice HA hs.length hc]] w fun e w'=>e = .returned (.int .i64 (regErr b hs)) ∧ Calm w w':=by
 have hlen:=hh.len
 obtain ⟨n,hn⟩ : ∃ n,hs.length = n:=⟨_,rfl⟩
 have Hn:=Lib.hid hn
 rw [hn] at hlen
 rw [hn]
 obtain ⟨pe,hpe⟩ : ∃ pe,patErr b = pe:=⟨_,rfl⟩
 obtain ⟨w1,hw1⟩ : ∃ w1,w1 = w.alloc (.cells #[.slice A b.parts.length c,.bool b.rest,.slice HA n hc] 68):=⟨_,rfl⟩
 have hc1 : Calm w w1:=by rw [hw1];exact (Calm.refl w).alloc _
 have hbox : w1.cell? ⟨w.heap.size,2,none⟩ = some (.slice HA n hc):=by rw [hw1];simp
 have hbs : w.heap.size < w1.heap.size:=by rw [hw1];simp
 have hcall:=pcheckU_v b pe A c w1 hpe (hr.calm hc1) hnc hc47
 have HH:=Lib.hid (hh.calm hc1)
 have HC:=Lib.hid hc1
 have HP:=Lib.hid hpe
 have HW:=Lib.hid hw1
 have HB:=Lib.hid hbox
 have HBS:=Lib.hid hbs
 clear hn hr hh hpe hw1 hc1 hbox hbs
 go_enter Tryz.func80,Tryz.ntmps80
 by_cases hb0 : pe = 0
 ·subst hb0
  have HPB : Hid (patErr b = 0):=HP.out
  go_wp2_with (go_at_call 64;rw [← HW.out];refine hcall.mono ?_;rintro e w2 ⟨rfl,hcw2⟩;have hbox2 : w2.cell? ⟨w.heap.size,2,none⟩ = some (.slice HA n hc):=(hcw2.cell (p:=⟨w.heap.size,2,none⟩) HBS.out).trans HB.out)
  have HC2:=Lib.hid hcw2
  clear hcall hcw2 hbox2
  go_loopw [12] (fun i wr=>∃ k : Nat,k ≤ n ∧ i = .int .i64 k ∧ Hid (∀ j h,j < k → hs[j]? = some h → patErr h = 0) ∧ Hid (Calm w1 wr)) (fun i _=>n - (intOf i).toNat)
  case atStart=>exact ⟨0,Nat.zero_le _,rfl,fun j h hj=>absurd hj (Nat.not_lt_zero _),HC2.out⟩
  case round=>
   obtain ⟨k,hk,rfl,HG,HCr⟩:=hrel
   by_cases hlt : k < n
   ·obtain ⟨bb,o,p,Ak,ck,rfl,_,hp,h1,h2,h3,h4,h5⟩:=(HH.out.calm HCr.out).get (k:=k) (by rw [Hn.out];exact hlt)
    have HP:=Lib.hid hp
    have H5:=Lib.hid h5
    obtain ⟨v,hv⟩ : ∃ v,patErr p = v:=⟨_,rfl⟩
    have HV:=Lib.hid hv
    clear hp h5 hv
    by_cases hv0 : v = 0
    ·subst hv0
     go_wp2_with (go_at_call 64;refine (pcheckU_v _ _ _ _ _ HV.out (H5.out.calm (((Calm.refl _).alloc _))) h3 h4).mono ?_;rintro e w3 ⟨rfl,hcw3⟩)
     go_roundw
     case rel=>exact ⟨k + 1,by omega,by go_num,good_holes HP.out HV.out HG.out,HCr.out.trans (((Calm.refl _).alloc _).trans hcw3)⟩
     case measure=>simp [intOf];omega
    ·have hvb : (v != 0) = true:=by simpa using hv0
     have hE : Hid (regErr b hs = 51):=regErr_hole HPB.out HP.out (by rw [HV.out];exact hv0)
     clear hv0
     go_wp2_with (go_at_call 64;refine (pcheckU_v _ _ _ _ _ HV.out (H5.out.calm (((Calm.refl _).alloc _))) h3 h4).mono ?_;rintro e w3 ⟨rfl,hcw3⟩)
     go_ret
     exact ⟨ret_int hE.out.symm,HC.out.trans (HCr.out.trans (((Calm.refl _).alloc _).trans hcw3))⟩
   ·have hbr : wr.cell? ⟨w.heap.size,2,none⟩ = some (.slice HA n hc):=(HCr.out.cell (p:=⟨w.heap.size,2,none⟩) HBS.out).trans HB.out
    have hE : Hid (regErr b hs = if 64 < n then 52 else 0):=by
     show regErr b hs = _
     rw [regErr_end HPB.out (fun j h hj=>HG.out j h (by rw [Hn.out] at hj;omega)),Hn.out]
    by_cases h64 : 64 < n
    ·go_wp2
     go_ret
     exact ⟨ret_int (by rw [hE.out,if_pos h64]),HC.out.trans HCr.out⟩
    ·go_wp2
     go_ret
     exact ⟨ret_int (by rw [hE.out,if_neg h64]),HC.out.trans HCr.out⟩
 ·have hv : Hid (regErr b hs = 50):=regErr_base (by rw [HP.out];exact hb0)
  have hbb : (pe != 0) = true:=by simpa using hb0
  clear hb0
  go_wp2_with (go_at_call 64;rw [← HW.out];refine hcall.mono ?_;rintro e w2 ⟨rfl,hcw2⟩)
  go_ret
  exact ⟨ret_int hv.out.symm,HC.out.trans hcw2⟩

set_option maxHeartbeats 1000000 in
theorem rgchecku_c (b : Pat) (hs : List Pat) (A : Option Addr) (c : Nat) (HA : Option Addr) (hc : Nat) (w : World) (hr : StrsU w A b.parts) (hnc : b.parts.length ≤ c) (hc47 : c ≤ 9223372036854775807) (hh : PatsU w HA hs) :
  Calls Tryz.prog 58 #[.agg #[.slice A b.parts.length c,.bool b.rest,.slice HA hs.length hc]] w fun e w'=>e = .returned (.int .i64 (regErr b hs)) ∧ Calm w w':=by
 have hlen:=hh.len
 obtain ⟨n,hn⟩ : ∃ n,hs.length = n:=⟨_,rfl⟩
 have Hn:=Lib.hid hn
 rw [hn] at hlen
 rw [hn]
 obtain ⟨pe,hpe⟩ : ∃ pe,patErr b = pe:=⟨_,rfl⟩
 obtain ⟨w1,hw1⟩ : ∃ w1,w1 = w.alloc (.cells #[.slice A b.parts.length c,.bool b.rest,.slice HA n hc] 68):=⟨_,rfl⟩
 have hc1 : Calm w w1:=by rw [hw1];exact (Calm.refl w).alloc _
 have hbox : w1.cell? ⟨w.heap.size,2,none⟩ = some (.slice HA n hc):=by rw [hw1];simp
 have hbs : w.heap.size < w1.heap.size:=by rw [hw1];simp
 have hcall:=rcheckU_v b pe A c w1 hpe (hr.calm hc1) hnc hc47
 have HH:=Lib.hid (hh.calm hc1)
 have HC:=Lib.hid hc1
 have HP:=Lib.hid hpe
 have HW:=Lib.hid hw1
 have HB:=Lib.hid hbox
 have HBS:=Lib.hid hbs
 clear hn hr hh hpe hw1 hc1 hbox hbs
 go_enter Tryz.func58,Tryz.ntmps58
 by_cases hb0 : pe = 0
 ·subst hb0
  have HPB : Hid (patErr b = 0):=HP.out
  go_wp2_with (go_at_call 71;rw [← HW.out];refine hcall.mono ?_;rintro e w2 ⟨rfl,hcw2⟩;have hbox2 : w2.cell? ⟨w.heap.size,2,none⟩ = some (.slice HA n hc):=(hcw2.cell (p:=⟨w.heap.size,2,none⟩) HBS.out).trans HB.out)
  have HC2:=Lib.hid hcw2
  clear hcall hcw2 hbox2
  go_loopw [12] (fun i wr=>∃ k : Nat,k ≤ n ∧ i = .int .i64 k ∧ Hid (∀ j h,j < k → hs[j]? = some h → patErr h = 0) ∧ Hid (Calm w1 wr)) (fun i _=>n - (intOf i).toNat)
  case atStart=>exact ⟨0,Nat.zero_le _,rfl,fun j h hj=>absurd hj (Nat.not_lt_zero _),HC2.out⟩
  case round=>
   obtain ⟨k,hk,rfl,HG,HCr⟩:=hrel
   by_cases hlt : k < n
   ·obtain ⟨bb,o,p,Ak,ck,rfl,_,hp,h1,h2,h3,h4,h5⟩:=(HH.out.calm HCr.out).get (k:=k) (by rw [Hn.out];exact hlt)
    have HP:=Lib.hid hp
    have H5:=Lib.hid h5
    obtain ⟨v,hv⟩ : ∃ v,patErr p = v:=⟨_,rfl⟩
    have HV:=Lib.hid hv
    clear hp h5 hv
    by_cases hv0 : v = 0
    ·subst hv0
     go_wp2_with (go_at_call 71;refine (rcheckU_v _ _ _ _ _ HV.out (H5.out.calm (((Calm.refl _).alloc _))) h3 h4).mono ?_;rintro e w3 ⟨rfl,hcw3⟩)
     go_roundw
     case rel=>exact ⟨k + 1,by omega,by go_num,good_holes HP.out HV.out HG.out,HCr.out.trans (((Calm.refl _).alloc _).trans hcw3)⟩
     case measure=>simp [intOf];omega
    ·have hvb : (v != 0) = true:=by simpa using hv0
     have hE : Hid (regErr b hs = 51):=regErr_hole HPB.out HP.out (by rw [HV.out];exact hv0)
     clear hv0
     go_wp2_with (go_at_call 71;refine (rcheckU_v _ _ _ _ _ HV.out (H5.out.calm (((Calm.refl _).alloc _))) h3 h4).mono ?_;rintro e w3 ⟨rfl,hcw3⟩)
     go_ret
     exact ⟨ret_int hE.out.symm,HC.out.trans (HCr.out.trans (((Calm.refl _).alloc _).trans hcw3))⟩
   ·have hbr : wr.cell? ⟨w.heap.size,2,none⟩ = some (.slice HA n hc):=(HCr.out.cell (p:=⟨w.heap.size,2,none⟩) HBS.out).trans HB.out
    have hE : Hid (regErr b hs = if 64 < n then 52 else 0):=by
     show regErr b hs = _
     rw [regErr_end HPB.out (fun j h hj=>HG.out j h (by rw [Hn.out] at hj;omega)),Hn.out]
    by_cases h64 : 64 < n
    ·go_wp2
     go_ret
     exact ⟨ret_int (by rw [hE.out,if_pos h64]),HC.out.trans HCr.out⟩
    ·go_wp2
     go_ret
     exact ⟨ret_int (by rw [hE.out,if_neg h64]),HC.out.trans HCr.out⟩
 ·have hv : Hid (regErr b hs = 50):=regErr_base (by rw [HP.out];exact hb0)
  have hbb : (pe != 0) = true:=by simpa using hb0
  clear hb0
  go_wp2_with (go_at_call 71;rw [← HW.out];refine hcall.mono ?_;rintro e w2 ⟨rfl,hcw2⟩)
  go_ret
  exact ⟨ret_int hv.out.symm,HC.out.trans hcw2⟩
end Go.Proofs.YtnlnclefedohkaaGreatDoor
