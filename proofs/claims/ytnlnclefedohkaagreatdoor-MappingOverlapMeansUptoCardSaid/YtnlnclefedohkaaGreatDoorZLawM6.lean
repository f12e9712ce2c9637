/- Walks: the law MappingOverlapMeans. -/
import Derived.Deep.RegionLaw
import Derived.BigRegion
import Derived.Deep.RegionHeld3
import Derived.Deep.DeepCutAuto
import Derived.Test.YtnlnclefedohkaaGreatDoorZMapA
import Derived.Test.YtnlnclefedohkaaGreatDoorZEntM
import Derived.Test.YtnlnclefedohkaaGreatDoorZBwdM
import Derived.Test.YtnlnclefedohkaaGreatDoorZPutA
import Derived.Test.YtnlnclefedohkaaGreatDoorZOutM
import Derived.Test.YtnlnclefedohkaaGreatDoorZMeetW
import Derived.Test.YtnlnclefedohkaaGreatDoorZVoidB
import Derived.Test.YtnlnclefedohkaaGreatDoorZFwd
import Derived.Test.YtnlnclefedohkaaGreatDoorZMeetP
import Derived.Test.YtnlnclefedohkaaGreatDoorZRed3W
import Derived.Test.YtnlnclefedohkaaGreatDoorZConcatP
import Derived.Test.YtnlnclefedohkaaGreatDoorZBindW
import Derived.Test.YtnlnclefedohkaaGreatDoorZBind2
import Derived.Test.YtnlnclefedohkaaGreatDoorZSubW
import Derived.Test.YtnlnclefedohkaaGreatDoorZNarW
import Derived.Test.YtnlnclefedohkaaGreatDoorZRightW
import Derived.Test.YtnlnclefedohkaaGreatDoorZColE
import Derived.Test.YtnlnclefedohkaaGreatDoorZCommonP
import Derived.Test.YtnlnclefedohkaaGreatDoorZCheckW
import Derived.Test.YtnlnclefedohkaaGreatDoorZRstL
import Derived.Test.YtnlnclefedohkaaGreatDoorZOvK
import Derived.Test.YtnlnclefedohkaaGreatDoorZAgK
import Derived.Test.YtnlnclefedohkaaGreatDoorZRedM
import Derived.Test.YtnlnclefedohkaaGreatDoorZAwakeM
import Derived.Test.YtnlnclefedohkaaGreatDoorZFwdM
import Derived.Test.YtnlnclefedohkaaGreatDoorZMapG
set_option linter.unusedVariables false
set_option linter.unusedSimpArgs false
namespace Go.Proofs.YtnlnclefedohkaaGreatDoor
open Go Go.RowKit Sy

def patsOf (x : Ent) : List Pat:=x.left :: x.right :: x.hs
def szTo (ps : List Pat) (k : Nat) : Nat:=((ps.take k).map fun p=>p.parts.length).sum
def szE (es : List Ent) (k : Nat) : Nat:=((es.take k).map fun x=>szTo (patsOf x) (patsOf x).length).sum
theorem szTo_succ {ps : List Pat} {k : Nat} {p : Pat} (h : ps[k]? = some p) : szTo ps (k + 1) = szTo ps k + p.parts.length:=by
 obtain ⟨hlt,rfl⟩:=List.getElem?_eq_some_iff.1 h
 rw [szTo,List.take_succ_eq_append_getElem hlt,List.map_append,List.sum_append,szTo]
 simp
theorem szE_succ {es : List Ent} {k : Nat} {x : Ent} (h : es[k]? = some x) : szE es (k + 1) = szE es k + szTo (patsOf x) (patsOf x).length:=by
 obtain ⟨hlt,rfl⟩:=List.getElem?_eq_some_iff.1 h
 rw [szE,List.take_succ_eq_append_getElem hlt,List.map_append,List.sum_append,szE]
 simp
theorem sum_le {α : Type} {f : α → Nat} {b : Nat} : ∀ {l : List α},(∀ x ∈ l,f x ≤ b) → (l.map f).sum ≤ l.length * b
 |[],_=>by simp
 |a :: l,h=>by
  have ih:=sum_le (l:=l) fun x hx=>h x (List.mem_cons_of_mem _ hx)
  have:=h a List.mem_cons_self
  rw [List.map_cons,List.sum_cons,List.length_cons,Nat.add_mul,Nat.one_mul]
  omega
theorem le_sum {α : Type} {f : α → Nat} : ∀ {l : List α} {a : α},a ∈ l → f a ≤ (l.map f).sum
 |b :: l,a,h=>by
  rw [List.map_cons,List.sum_cons]
  rcases List.mem_cons.1 h with rfl | h
  ·omega
  ·have:=le_sum (f:=f) h
   omega
theorem szTo_le {ps : List Pat} {B : Nat} (h : ∀ p ∈ ps,p.parts.length ≤ B) (k : Nat) : szTo ps k ≤ ps.length * B:=by
 have h1 : szTo ps k ≤ (ps.take k).length * B:=sum_le (f:=fun p : Pat=>p.parts.length) fun p hp=>h p (List.mem_of_mem_take hp)
 have h2 : (ps.take k).length ≤ ps.length:=by rw [List.length_take];omega
 have h3:=Nat.mul_le_mul_right B h2
 omega
theorem szE_le {es : List Ent} {B : Nat} (h : ∀ x ∈ es,szTo (patsOf x) (patsOf x).length ≤ B) (k : Nat) : szE es k ≤ es.length * B:=by
 have h1 : szE es k ≤ (es.take k).length * B:=sum_le (f:=fun x : Ent=>szTo (patsOf x) (patsOf x).length) fun x hx=>h x (List.mem_of_mem_take hx)
 have h2 : (es.take k).length ≤ es.length:=by rw [List.length_take];omega
 have h3:=Nat.mul_le_mul_right B h2
 omega
def SmallMEnd (es : List Ent) (e : Ending) : Prop:=∃ b,e = .returned (.bool b) ∧ (b = true → es.length ≤ 40 ∧ ∀ x ∈ es,SizeE 60 x)
theorem small_of {es : List Ent} (hn : szE es es.length ≤ 300) (hs : ∀ j x,j < es.length → es[j]? = some x → ∀ p ∈ patsOf x,∀ s ∈ p.parts,s.length ≤ 60) : ∀ x ∈ es,SizeE 60 x:=fun x hx=>by
 have h1 : szTo (patsOf x) (patsOf x).length ≤ szE es es.length:=by
  rw [szE,List.take_length]
  exact le_sum (f:=fun x : Ent=>szTo (patsOf x) (patsOf x).length) hx
 have h2 : ∀ p ∈ patsOf x,p.parts.length ≤ 300:=fun p hp=>by
  have : p.parts.length ≤ szTo (patsOf x) (patsOf x).length:=by
   rw [szTo,List.take_length]
   exact le_sum (f:=fun p : Pat=>p.parts.length) hp
  omega
 obtain ⟨j,hj,he⟩:=List.mem_iff_getElem.1 hx
 have h3:=hs j x hj (by rw [List.getElem?_eq_getElem hj,he])
 exact ⟨h2 _ List.mem_cons_self,h3 _ List.mem_cons_self,h2 _ (List.mem_cons_of_mem _ List.mem_cons_self),h3 _ (List.mem_cons_of_mem _ List.mem_cons_self),fun p hp=>⟨h2 _ (List.mem_cons_of_mem _ (List.mem_cons_of_mem _ hp)),h3 _ (List.mem_cons_of_mem _ (List.mem_cons_of_mem _ hp))⟩⟩
theorem own_lit2 {w : World} (x y : NewP) {n m : Nat} {r q : Bool} (h1 : x.p.parts.length = n) (h2 : y.p.parts.length = m) (h3 : x.p.rest = r) (h4 : y.p.rest = q) : OwnX encP 2 40 w (w.alloc (.cells #[.slice x.A n x.c,.bool r,.slice y.A m y.c,.bool q] 40)) (.slice (some ⟨w.heap.size,0,none⟩) 2 2) [x,y]:=by
 subst h1 h2 h3 h4
 exact ⟨(Calm.refl w).alloc _,by
  have:=World.ownsRow_lit (base:=w.heap.size) (e:=40) (size:=2) w #[.slice x.A x.p.parts.length x.c,.bool x.p.rest,.slice y.A y.p.parts.length y.c,.bool y.p.rest] 2 (Nat.le_refl _) (by decide) rfl
  simpa [encs,encP] using this⟩
theorem len2 (a b : NewP) {zs : List NewP} {n : Nat} (h : zs.length = n) : ([a,b] ++ zs).length = n + 2:=by
 subst h
 rfl
theorem OwnX.shapeP {w0 w : World} {v : Value} {l : List NewP} (h : OwnX encP 2 40 w0 w v l) : ∃ A c,v = .slice A l.length c ∧ l.length ≤ c ∧ c ≤ 9223372036854775807 ∧ ReadX encP 2 w A l:=by
 rcases h.row encP_len with ⟨rfl,rfl⟩ | ⟨g,c,rfl,h1,h2,_,hr⟩
 ·exact ⟨none,0,rfl,Nat.le_refl _,by omega,fun h=>absurd rfl h⟩
 ·exact ⟨_,c,rfl,h1,h2,fun _=>⟨g,0,rfl,hr.lt,fun k x hk i u hu=>hr.cell k x hk i u hu⟩⟩
theorem ReadX.getP {w : World} {A : Option Addr} {l : List NewP} (h : ReadX encP 2 w A l) {k : Nat} (hk : k < l.length) : ∃ (b o : Nat) (y : NewP),A = some ⟨b,o,none⟩ ∧ b < w.heap.size ∧ l[k]? = some y ∧ w.cell? ⟨b,o + k * 2,none⟩ = some (.slice y.A y.p.parts.length y.c) ∧ w.cell? ⟨b,o + k * 2 + 1,none⟩ = some (.bool y.p.rest):=by
 obtain ⟨b,o,hA,hb,hc⟩:=h (fun e=>by rw [e] at hk;simp at hk)
 have hz:=List.getElem?_eq_getElem hk
 exact ⟨b,o,l[k],hA,hb,hz,hc k _ hz 0 _ rfl,hc k _ hz 1 _ rfl⟩
set_option maxHeartbeats 8000000 in
theorem smallM_c (es : List Ent) (n c : Nat) (A : Option Addr) (w : World) (h : EntsA w A es) (hcn : n ≤ c) (hcc : c ≤ 9223372036854775807) (hn : es.length = n) :
  Calls Tryz.prog 6 #[.slice A n c] w fun e w'=>SmallMEnd es e ∧ Calm w w':=by
 have hl : n ≤ 1048576:=by rw [← hn];exact h.1
 have hall : ∀ x ∈ es,(patsOf x).length ≤ 1048578 ∧ ∀ p ∈ patsOf x,p.parts.length ≤ 1048576:=fun x hx=>by
  obtain ⟨_,zs,rfl,_,h3⟩:=h
  obtain ⟨z,hz,rfl⟩:=List.mem_map.1 hx
  have hz2:=h3 z hz
  refine ⟨by have:=hz2.h.len;simp only [patsOf,List.length_cons];omega,fun p hp=>?_⟩
  rcases List.mem_cons.1 hp with rfl | hp
  ·exact hz2.l.len
  ·rcases List.mem_cons.1 hp with rfl | hp
   ·exact hz2.r.len
   ·obtain ⟨i,hi,he⟩:=List.mem_iff_getElem.1 hp
    obtain ⟨_,_,q,_,_,_,_,hq,_,_,_,_,h5⟩:=hz2.h.get hi
    rw [List.getElem?_eq_getElem hi,he] at hq
    cases hq
    exact h5.len
 have hB : ∀ x ∈ es,∀ j,szTo (patsOf x) j ≤ 1099513724928:=fun x hx j=>by
  have h2:=hall x hx
  have h3:=szTo_le h2.2 j
  omega
 have HSz : Hid (∀ k,szE es k ≤ 1152923703630102528):=fun k=>by
  have h1:=szE_le (fun x hx=>hB x hx _) k
  have h2:=h.1
  omega
 have HSt:=Lib.hid hB
 have HE:=Lib.hid h
 have HN:=Lib.hid hn
 have HAll:=Lib.hid hall
 clear h hn hall hB
 go_enter Tryz.func6,Tryz.ntmps6
 go_wp2_with fail
 go_loopw [3,12] (fun v u wr=>∃ k : Nat,k ≤ n ∧ u = .int .i64 k ∧ v = .int .i64 (szE es k : Nat) ∧ Hid (Calm w wr) ∧ Hid (∀ j x,j < k → es[j]? = some x → ∀ p ∈ patsOf x,∀ s ∈ p.parts,s.length ≤ 60)) (fun _ u _=>n - (intOf u).toNat)
 case atStart=>exact ⟨0,Nat.zero_le _,rfl,by simp [szE],Calm.refl _,fun j x hj=>absurd hj (Nat.not_lt_zero _)⟩
 case round=>
  obtain ⟨k,hk,rfl,rfl,HCr,HF⟩:=hrel
  obtain ⟨wq,rfl⟩ : ∃ wq,wq = wr:=⟨_,rfl⟩
  by_cases hlt : k < n
  ·obtain ⟨b,o,z,rfl,hb,hz,c0,c1,c2,c3,c4,hu⟩:=(HE.out.calm HCr.out).get (k:=k) (by rw [HN.out];exact hlt)
   obtain ⟨nl,hnl⟩ : ∃ nl,z.e.left.parts.length = nl:=⟨_,rfl⟩
   obtain ⟨nr,hnr⟩ : ∃ nr,z.e.right.parts.length = nr:=⟨_,rfl⟩
   obtain ⟨lr,hlr⟩ : ∃ lr,z.e.left.rest = lr:=⟨_,rfl⟩
   obtain ⟨rr,hrr⟩ : ∃ rr,z.e.right.rest = rr:=⟨_,rfl⟩
   obtain ⟨hn,hhn⟩ : ∃ hn,z.e.hs.length = hn:=⟨_,rfl⟩
   rw [hnl] at c0
   rw [hlr] at c1
   rw [hnr] at c2
   rw [hrr] at c3
   rw [hhn] at c4
   obtain ⟨zs,hzs,hX,hzu⟩:=hu.h.places
   have hzl : zs.length = hn:=by rw [← hhn,← hzs,List.length_map]
   have hhl : hn ≤ 1048576:=by rw [← hhn];exact hu.h.len
   have HX : Hid (∀ W,Calm wq W → ReadX encP 2 W z.HA zs):=fun W hW=>hX.calm hW
   have HP : Hid (patsOf z.e = ((⟨z.LA,z.lc,z.e.left⟩ : NewP) :: (⟨z.RA,z.rc,z.e.right⟩ : NewP) :: zs).map (·.p)):=by
    show patsOf z.e = _
    rw [List.map_cons,List.map_cons,hzs]
    rfl
   have HU : Hid (∀ y ∈ ((⟨z.LA,z.lc,z.e.left⟩ : NewP) :: (⟨z.RA,z.rc,z.e.right⟩ : NewP) :: zs),y.p.parts.length ≤ y.c ∧ y.c ≤ 9223372036854775807 ∧ StrsU wq y.A y.p.parts):=fun y hy=>by
    rcases List.mem_cons.1 hy with rfl | hy
    ·exact ⟨hu.lroom,hu.lcap,hu.l⟩
    ·rcases List.mem_cons.1 hy with rfl | hy
     ·exact ⟨hu.rroom,hu.rcap,hu.r⟩
     ·exact hzu y hy
   have HZ:=Lib.hid hz
   have HLit : Hid (OwnX encP 2 40 (wq.alloc (.cells #[.slice z.LA nl z.lc,.bool lr,.slice z.RA nr z.rc,.bool rr,.slice z.HA hn z.hc] 43)) ((wq.alloc (.cells #[.slice z.LA nl z.lc,.bool lr,.slice z.RA nr z.rc,.bool rr,.slice z.HA hn z.hc] 43)).alloc (.cells #[.slice z.LA nl z.lc,.bool lr,.slice z.RA nr z.rc,.bool rr] 40)) (.slice (some ⟨wq.heap.size + 1,0,none⟩) 2 2) [⟨z.LA,z.lc,z.e.left⟩,⟨z.RA,z.rc,z.e.right⟩]):=by
    have:=own_lit2 (w:=wq.alloc (.cells #[.slice z.LA nl z.lc,.bool lr,.slice z.RA nr z.rc,.bool rr,.slice z.HA hn z.hc] 43)) ⟨z.LA,z.lc,z.e.left⟩ ⟨z.RA,z.rc,z.e.right⟩ hnl hnr hlr hrr
    rw [World.size_alloc] at this
    exact this
   have HSk:=HSz.out k
   have HZl:=Lib.hid hzl
   have HTs : Hid (∀ j,szTo (patsOf z.e) j ≤ 1099513724928):=HSt.out z.e (List.mem_of_getElem? hz)
   have HPl : Hid (∀ y ∈ ((⟨z.LA,z.lc,z.e.left⟩ : NewP) :: (⟨z.RA,z.rc,z.e.right⟩ : NewP) :: zs),y.p.parts.length ≤ 1048576):=fun y hy=>(HU.out y hy).2.2.len
   clear hz hu hzs hX hzu hnl hnr hlr hrr hhn hzl
   go_wp2_with (at_builtin;go_loud (refine wpList_append_xs (enc:=encP) (K:=2) (T:=40) Tryz.underlying41 info_patE rfl (by decide) (by decide) encP_len encP_one rfl (.tmp 20) (.tmp 22) rfl _ _ [⟨z.LA,z.lc,z.e.left⟩,⟨z.RA,z.rc,z.e.right⟩] zs rfl HLit.out _ hn z.hc rfl HZl.out (HX.out _ (((Calm.refl _).alloc _).alloc _)) (by show 2 + hn ≤ 2000000;omega) ?_;intro v5 w5 hown5 hg5;obtain ⟨A5,c5,rfl,h51,h52,hX5⟩:=hown5.shapeP;have hc5 : Calm wq w5:=Calm.trans ((Calm.refl _).alloc _) hown5.calm;have hl5 : ([⟨z.LA,z.lc,z.e.left⟩,⟨z.RA,z.rc,z.e.right⟩] ++ zs : List NewP).length = hn + 2:=len2 _ _ HZl.out;rw [hl5] at h51 ⊢;clear hl5 hown5 hg5))
   have HX5:=Lib.hid hX5
   have HC5:=Lib.hid hc5
   clear hX5 hc5 c0 c1 c2 c3 c4
   obtain ⟨S0,hS0⟩ : ∃ S0,szE es k = S0:=⟨_,rfl⟩
   rw [hS0] at HSk ⊢
   go_loopw [3,25] (fun v u wp=>∃ j T : Nat,j ≤ hn + 2 ∧ u = .int .i64 j ∧ v = .int .i64 T ∧ T = S0 + szTo (patsOf z.e) j ∧ Hid (Calm w5 wp) ∧ Hid (∀ i p,i < j → (patsOf z.e)[i]? = some p → ∀ s ∈ p.parts,s.length ≤ 60)) (fun _ u _=>hn + 2 - (intOf u).toNat)
   case atStart=>exact ⟨0,S0,Nat.zero_le _,rfl,rfl,by simp [szTo],Calm.refl _,fun j x hj=>absurd hj (Nat.not_lt_zero _)⟩
   case round=>
    obtain ⟨j,T,hj,rfl,rfl,hT,HCj,HG⟩:=hrel
    obtain ⟨wp,rfl⟩ : ∃ wp,wp = wr:=⟨_,rfl⟩
    by_cases hlt2 : j < hn + 2
    ·obtain ⟨b5,o5,y,rfl,hb5,hy,d0,d1⟩:=(HX5.out.calm HCj.out).getP (k:=j) (by rw [List.length_append,HZl.out];simp only [List.length_cons,List.length_nil] <;> omega)
     have hyU:=HU.out y (List.mem_of_getElem? hy)
     have HYU : Hid (StrsU wp y.A y.p.parts):=hyU.2.2.calm (HC5.out.trans HCj.out)
     have hyc:=hyU.1
     have hycc:=hyU.2.1
     have hyl:=hyU.2.2.len
     have HY : Hid ((patsOf z.e)[j]? = some y.p):=by
      show _ = _
      rw [HP.out,List.getElem?_map]
      show Option.map _ (([⟨z.LA,z.lc,z.e.left⟩,⟨z.RA,z.rc,z.e.right⟩] ++ zs : List NewP)[j]?) = _
      rw [hy]
      rfl
     obtain ⟨pn,hpn⟩ : ∃ pn,y.p.parts.length = pn:=⟨_,rfl⟩
     rw [hpn] at d0 hyc hyl
     have HPn:=Lib.hid hpn
     have hTb:=HTs.out j
     clear hy hyU hpn
     go_wp2_with fail
     go_loopw [37] (fun u wr=>∃ i : Nat,i ≤ pn ∧ u = .int .i64 i ∧ Hid (Calm wp wr) ∧ Hid (∀ q s,q < i → y.p.parts[q]? = some s → s.length ≤ 60)) (fun u _=>pn - (intOf u).toNat)
     case atStart=>exact ⟨0,Nat.zero_le _,rfl,(Calm.refl _).alloc _,fun q s hq=>absurd hq (Nat.not_lt_zero _)⟩
     case round=>
      obtain ⟨i,hi,rfl,HCi,HQ⟩:=hrel
      by_cases hlt3 : i < pn
      ·obtain ⟨b2,o2,l,hAy,hb2,hl2,hll,hcl⟩:=(HYU.out.calm HCi.out).get (k:=i) (by rw [HPn.out];exact hlt3)
       have HL:=Lib.hid hl2
       clear hl2 d0 d1
       rw [hAy]
       by_cases h60 : l.length ≤ 60
       ·go_wp2
        go_roundw
        case rel=>
         refine ⟨i + 1,by omega,by go_num,HCi.out,fun q s hq hs=>?_⟩
         by_cases e : q = i
         ·subst e
          rw [HL.out] at hs
          cases hs
          exact h60
         ·exact HQ.out q s (by omega) hs
        case measure=>simp [intOf];omega
       ·go_wp2
        go_ret
        exact ⟨⟨false,rfl,fun h=>by cases h⟩,HCr.out.trans (HC5.out.trans (HCj.out.trans HCi.out))⟩
      ·obtain rfl : i = pn:=by omega
       clear d0 d1
       go_wp2
       go_roundw
       case rel=>
        refine ⟨j + 1,T + i,by omega,by go_num,by go_num,by rw [szTo_succ HY.out,HPn.out];omega,HCj.out.trans HCi.out,fun q p hq hp=>?_⟩
        by_cases e : q = j
        ·subst e
         rw [HY.out] at hp
         cases hp
         intro s hm
         obtain ⟨i2,hi2,he2⟩:=List.mem_iff_getElem.1 hm
         exact HQ.out i2 s (by rw [← HPn.out];exact hi2) (by rw [List.getElem?_eq_getElem hi2,he2])
        ·exact HG.out q p (by omega) hp
       case measure=>simp [intOf];omega
    ·obtain rfl : j = hn + 2:=by omega
     go_wp2
     go_roundw
     case rel=>
      have hpl : (patsOf z.e).length = hn + 2:=by
       rw [HP.out,List.length_map]
       simp only [List.length_cons]
       rw [HZl.out]
      refine ⟨k + 1,by omega,by go_num,by rw [szE_succ HZ.out,hpl,hS0,hT],HCr.out.trans (HC5.out.trans HCj.out),fun q x hq hx=>?_⟩
      by_cases e : q = k
      ·subst e
       rw [HZ.out] at hx
       cases hx
       intro p hm
       obtain ⟨i2,hi2,he2⟩:=List.mem_iff_getElem.1 hm
       exact HG.out i2 p (by rw [← hpl];exact hi2) (by rw [List.getElem?_eq_getElem hi2,he2])
      ·exact HF.out q x (by omega) hx
     case measure=>simp [intOf];omega
  ·obtain rfl : k = n:=by omega
   have HSk:=HSz.out k
   obtain ⟨S0,hS0⟩ : ∃ S0,szE es k = S0:=⟨_,rfl⟩
   rw [hS0] at HSk ⊢
   by_cases h300 : S0 ≤ 300
   ·by_cases h40 : k ≤ 40
    ·go_wp2
     all_goals go_ret
     exact ⟨⟨_,rfl,fun _=>⟨by rw [HN.out];exact h40,small_of (by rw [HN.out,hS0];exact h300) (fun j x hj hx=>HF.out j x (by rw [← HN.out];exact hj) hx)⟩⟩,HCr.out⟩
    ·go_wp2
     all_goals go_ret
     exact ⟨⟨_,rfl,fun h=>by first | (cases h;done) | (revert h;simp;done) | (revert h;simp;omega)⟩,HCr.out⟩
   ·go_wp2
    all_goals go_ret
    exact ⟨⟨_,rfl,fun h=>by first | (cases h;done) | (revert h;simp;done) | (revert h;simp;omega)⟩,HCr.out⟩
end Go.Proofs.YtnlnclefedohkaaGreatDoor
set_option linter.unusedVariables false
set_option linter.unusedSimpArgs false
namespace Go.Proofs.YtnlnclefedohkaaGreatDoor
open Go Go.RowKit Sy

theorem hasS_path {x : Ent} (hg : gErr x.reg = 0) {s : Str} {l : List Str} (hp : pathOf s = some l) : hasS x.left x.hs s = hasG x.reg l:=by
 rw [hasS_hasR (b:=x.left) (hs:=x.hs) (gErr_zero hg).1 (gErr_zero hg).2.1]
 unfold hasR
 rw [hp]
 rfl
theorem hasS_nopath {b : Pat} {hs : List Pat} {s : Str} (hp : pathOf s = none) : hasS b hs s = false:=by
 unfold hasS
 rw [matchS,hp]
 rfl
theorem hasG_match {x : Ent} {l : List Str} (h : hasG x.reg l = true) : matchL x.left l = true:=by
 unfold hasG hasL at h
 rw [Bool.and_eq_true] at h
 exact h.1
theorem fwd_path {r : Rule} (hr : ruleErr r = 0) {s : Str} {l : List Str} (hp : pathOf s = some l) : fwd r s = if matchL r.left l then some (pathStr (trL r.left r.right l)) else none:=by
 unfold fwd
 rw [if_pos hr,hp]
theorem find_congr {α : Type} {p q : α → Bool} : ∀ {l : List α},(∀ a ∈ l,p a = q a) → l.find? p = l.find? q
 |[],_=>rfl
 |a :: l,h=>by
  rw [List.find?_cons,List.find?_cons,h a List.mem_cons_self,find_congr fun b hb=>h b (List.mem_cons_of_mem _ hb)]
theorem bySE_fwdM {es : List Ent} (h : Mapping es) (s : Str) : bySE es s = fwdM es s:=by
 unfold bySE fwdM
 rcases hp : pathOf s with _ | l
 ·have : es.find? (fun x=>hasS x.left x.hs s) = none:=by
   rw [List.find?_eq_none]
   intro x hx
   rw [hasS_nopath hp]
   simp
  rw [this]
 ·have e : es.find? (fun x=>hasS x.left x.hs s) = es.find? fun x=>hasG x.reg l:=find_congr fun x hx=>hasS_path (h.good x hx).2 hp
  rw [e]
  rcases hf : es.find? (fun x=>hasG x.reg l) with _ | x
  ·simp only [hf]
   rfl
  ·have hx:=List.mem_of_find?_eq_some hf
   have hh:=List.find?_some (p:=fun x : Ent=>hasG x.reg l) hf
   simp only [hf,Option.map_some]
   rw [fwd_path (h.good x hx).1 hp,if_pos (show matchL x.rule.left l = true from hasG_match hh)]
   rfl
def mfS (es : List Ent) (s : Str) : Option Str:=if (mapE es).2 = 0 then fwdM es s else none
def optV (o : Option Str) : Value:=.tuple #[.string (bs (o.getD [])),.bool o.isSome]
theorem mfV_eq (es : List Ent) (s : Str) : mfV es s = optV (mfS es s):=by
 unfold mfV mfS
 by_cases h : (mapE es).2 = 0
 ·rw [if_pos h,if_pos h]
  unfold byV optV
  rw [bySE_fwdM (mapE_zero h).1]
 ·rw [if_neg h,if_neg h]
  rfl
end Go.Proofs.YtnlnclefedohkaaGreatDoor
set_option linter.unusedVariables false
set_option linter.unusedSimpArgs false
namespace Go.Proofs.YtnlnclefedohkaaGreatDoor
open Go Go.RowKit Sy

end Go.Proofs.YtnlnclefedohkaaGreatDoor
set_option linter.unusedVariables false
set_option linter.unusedSimpArgs false
namespace Go.Proofs.YtnlnclefedohkaaGreatDoor
open Go Go.RowKit Sy

theorem OwnS.kindne {w0 w : World} {v : Value} {l : List Str} (h : OwnS w0 w v l) {b : Nat} {T : TypeId} (hT : T ≠ 9) (hk : ∃ cs,w.heap[b]? = some (.cells cs T (0,0))) : some b ≠ v.ownBlock:=fun e=>by
 obtain ⟨cs,hh⟩:=hk
 rcases h.own.2 with ⟨rfl,_⟩ | ⟨g,cap,cur,rfl,_,hgh,_⟩
 ·simp [Value.ownBlock] at e
 ·have e2 : b = g:=by simpa [Value.ownBlock] using e
  rw [e2,hgh] at hh
  injection hh with hh
  injection hh with _ ht
  exact absurd ht.symm hT
theorem OwnS.shape {w0 w : World} {v : Value} {l : List Str} (h : OwnS w0 w v l) : ∃ A n c,v = .slice A n c:=by
 rcases h.own.2 with ⟨rfl,_⟩ | ⟨g,cap,cur,rfl,_⟩
 ·exact ⟨_,_,_,rfl⟩
 ·exact ⟨_,_,_,rfl⟩
end Go.Proofs.YtnlnclefedohkaaGreatDoor
set_option linter.unusedVariables false
set_option linter.unusedSimpArgs false
namespace Go.Proofs.YtnlnclefedohkaaGreatDoor
open Go Go.RowKit Sy

end Go.Proofs.YtnlnclefedohkaaGreatDoor
set_option linter.unusedVariables false
set_option linter.unusedSimpArgs false
namespace Go.Proofs.YtnlnclefedohkaaGreatDoor
open Go Go.RowKit Sy

end Go.Proofs.YtnlnclefedohkaaGreatDoor
set_option linter.unusedVariables false
set_option linter.unusedSimpArgs false
namespace Go.Proofs.YtnlnclefedohkaaGreatDoor
open Go Go.RowKit Sy

end Go.Proofs.YtnlnclefedohkaaGreatDoor
set_option linter.unusedVariables false
set_option linter.unusedSimpArgs false
namespace Go.Proofs.YtnlnclefedohkaaGreatDoor
open Go Go.RowKit Sy

end Go.Proofs.YtnlnclefedohkaaGreatDoor
set_option linter.unusedVariables false
set_option linter.unusedSimpArgs false
namespace Go.Proofs.YtnlnclefedohkaaGreatDoor
open Go Go.RowKit Sy

end Go.Proofs.YtnlnclefedohkaaGreatDoor
set_option linter.unusedVariables false
set_option linter.unusedSimpArgs false
namespace Go.Proofs.YtnlnclefedohkaaGreatDoor
open Go Go.RowKit Sy

end Go.Proofs.YtnlnclefedohkaaGreatDoor
set_option linter.unusedVariables false
set_option linter.unusedSimpArgs false
namespace Go.Proofs.YtnlnclefedohkaaGreatDoor
open Go Go.RowKit Sy

end Go.Proofs.YtnlnclefedohkaaGreatDoor
set_option linter.unusedVariables false
set_option linter.unusedSimpArgs false
namespace Go.Proofs.YtnlnclefedohkaaGreatDoor
open Go Go.RowKit Sy

end Go.Proofs.YtnlnclefedohkaaGreatDoor
set_option linter.unusedVariables false
set_option linter.unusedSimpArgs false
namespace Go.Proofs.YtnlnclefedohkaaGreatDoor
open Go Go.RowKit Sy

end Go.Proofs.YtnlnclefedohkaaGreatDoor
set_option linter.unusedVariables false
set_option linter.unusedSimpArgs false
namespace Go.Proofs.YtnlnclefedohkaaGreatDoor
open Go Go.RowKit Sy

end Go.Proofs.YtnlnclefedohkaaGreatDoor
set_option linter.unusedVariables false
set_option linter.unusedSimpArgs false
namespace Go.Proofs.YtnlnclefedohkaaGreatDoor
open Go Go.RowKit Sy

end Go.Proofs.YtnlnclefedohkaaGreatDoor
set_option linter.unusedVariables false
set_option linter.unusedSimpArgs false
namespace Go.Proofs.YtnlnclefedohkaaGreatDoor
open Go Go.RowKit Sy

theorem SizeE.r {K : Nat} {x : Ent} (h : SizeE K x) (hK : K ≤ 250) : SmallR x.rule:=⟨by have:=h.lp;show x.left.parts.length ≤ _;omega,fun s hs'=>by have:=h.ls s hs';omega,by have:=h.rp;show x.right.parts.length ≤ _;omega,fun s hs'=>by have:=h.rs s hs';omega⟩
end Go.Proofs.YtnlnclefedohkaaGreatDoor
set_option linter.unusedVariables false
set_option linter.unusedSimpArgs false
namespace Go.Proofs.YtnlnclefedohkaaGreatDoor
open Go Go.RowKit Sy
def EntOutR (es : List Ent) (er : Int) (e : Ending) (w' : World) : Prop:=∃ A c,e = .returned (.tuple #[.slice A es.length c,.int .i64 er]) ∧ es.length ≤ c ∧ c ≤ 9223372036854775807 ∧ EntsR w' A es
theorem EntOut.r {es : List Ent} {er : Int} {B : Nat} {e : Ending} {w' : World} (h : EntOut es er B e w') : EntOutR es er e w':=by
 obtain ⟨A,c,h1,h2,h3,zs,h4,h5,h6⟩:=h
 exact ⟨A,c,h1,h2,h3,zs,h4,h5,fun z hz=>(h6 z hz).u⟩
structure GrU (w : World) (z : NewG) : Prop where
 b : PatA w z.A z.c z.g.b
 h : PatsR w z.HA z.g.hs
theorem GrU.calm {w w' : World} {z : NewG} (h : GrU w z) (hc : Calm w w') : GrU w' z:=⟨h.b.calm hc,h.h.calm hc⟩
def GrsR (w : World) (A : Option Addr) (gs : List Reg) : Prop:=∃ zs : List NewG,zs.map (·.g) = gs ∧ ReadX encG 3 w A zs ∧ ∀ z ∈ zs,GrU w z
theorem GrsR.calm {w w' : World} {A : Option Addr} {gs : List Reg} (h : GrsR w A gs) (hc : Calm w w') : GrsR w' A gs:=by
 obtain ⟨zs,h1,h2,h3⟩:=h
 exact ⟨zs,h1,h2.calm hc,fun z hz=>(h3 z hz).calm hc⟩
theorem GrsR.get {w : World} {A : Option Addr} {gs : List Reg} (h : GrsR w A gs) {k : Nat} (hk : k < gs.length) : ∃ (b o : Nat) (z : NewG),A = some ⟨b,o,none⟩ ∧ b < w.heap.size ∧ gs[k]? = some z.g ∧
  w.cell? ⟨b,o + k * 3,none⟩ = some (.slice z.A z.g.b.parts.length z.c) ∧ w.cell? ⟨b,o + k * 3 + 1,none⟩ = some (.bool z.g.b.rest) ∧ w.cell? ⟨b,o + k * 3 + 2,none⟩ = some (.slice z.HA z.g.hs.length z.hc) ∧ GrU w z:=by
 obtain ⟨zs,rfl,h2,h3⟩:=h
 rw [List.length_map] at hk
 obtain ⟨b,o,hA,hb,hc⟩:=h2 (fun e=>by rw [e] at hk;simp at hk)
 have hz:=List.getElem?_eq_getElem hk
 exact ⟨b,o,zs[k],hA,hb,by rw [List.getElem?_map,hz];rfl,hc k _ hz 0 _ rfl,hc k _ hz 1 _ rfl,hc k _ hz 2 _ rfl,h3 _ (List.mem_of_getElem? hz)⟩
def RegOutR (gs : List Reg) (er : Int) (e : Ending) (w' : World) : Prop:=∃ A c,e = .returned (.tuple #[.slice A gs.length c,.int .i64 er]) ∧ gs.length ≤ c ∧ c ≤ 9223372036854775807 ∧ GrsR w' A gs
theorem RegOut.r {gs : List Reg} {er : Int} {B : Nat} {e : Ending} {w' : World} (h : RegOut gs er B e w') (hg : ∀ g ∈ gs,gErr g = 0) : RegOutR gs er e w':=by
 obtain ⟨A,c,h1,h2,h3,zs,h4,h5,h6⟩:=h
 refine ⟨A,c,h1,h2,h3,zs,h4,h5,fun z hz=>?_⟩
 have hzg:=hg z.g (by rw [← h4];exact List.mem_map.2 ⟨z,hz,rfl⟩)
 have:=h6 z hz
 exact ⟨this.base.a,this.holes.reads (by have:=(gErr_zero hzg).2.2;omega)⟩
end Go.Proofs.YtnlnclefedohkaaGreatDoor
set_option linter.unusedVariables false
set_option linter.unusedSimpArgs false
namespace Go.Proofs.YtnlnclefedohkaaGreatDoor
open Go Go.RowKit Sy

set_option maxHeartbeats 4000000 in
theorem count_c (gs : List Reg) (s : Str) (n c : Nat) (A : Option Addr) (w : World) (h : GrsR w A gs) (hn : gs.length = n) (hl : n ≤ 1048576) (hgd : ∀ g ∈ gs,gErr g = 0) (hsl : s.length ≤ 10000) (hM : MaxL w) :
  Calls Tryz.prog 16 #[.slice A n c,.string (bs s)] w fun e w'=>e = .returned (.int .i64 ((gs.countP fun g=>hasS g.b g.hs s : Nat) : Int)) ∧ Calm w w':=by
 have HG:=Lib.hid h
 have HN:=Lib.hid hn
 have HGd:=Lib.hid hgd
 have HM:=Lib.hid hM
 clear h hn hgd hM
 go_enter Tryz.func16,Tryz.ntmps16
 go_wp2_with fail
 go_loopw [5,10] (fun v u wr=>∃ k T : Nat,k ≤ n ∧ T ≤ k ∧ u = .int .i64 k ∧ v = .int .i64 T ∧ Hid ((gs.take k).countP (fun g=>hasS g.b g.hs s) = T) ∧ Hid (Calm w wr)) (fun _ u _=>n - (intOf u).toNat)
 case atStart=>exact ⟨0,0,Nat.zero_le _,Nat.le_refl _,rfl,rfl,rfl,Calm.refl _⟩
 case round=>
  obtain ⟨k,T,hk,hT,rfl,rfl,HT,HCr⟩:=hrel
  obtain ⟨wq,rfl⟩ : ∃ wq,wq = wr:=⟨_,rfl⟩
  by_cases hlt : k < n
  ·obtain ⟨b,o,z,rfl,hb,hz,c0,c1,c2,hu⟩:=(HG.out.calm HCr.out).get (k:=k) (by rw [HN.out];exact hlt)
   have hg:=HGd.out z.g (List.mem_of_getElem? hz)
   obtain ⟨gn,hgn⟩ : ∃ gn,z.g.b.parts.length = gn:=⟨_,rfl⟩
   obtain ⟨gr,hgr⟩ : ∃ gr,z.g.b.rest = gr:=⟨_,rfl⟩
   obtain ⟨gm,hgm⟩ : ∃ gm,z.g.hs.length = gm:=⟨_,rfl⟩
   obtain ⟨v,hv⟩ : ∃ v,hasS z.g.b z.g.hs s = v:=⟨_,rfl⟩
   rw [hgn] at c0
   rw [hgr] at c1
   rw [hgm] at c2
   have KH : Hid (∀ W,Calm wq W → Calls Tryz.prog 44 #[.agg #[.slice z.A gn z.c,.bool gr,.slice z.HA gm z.hc],.string (bs s)] W fun e w'=>e = .returned (.bool v) ∧ Calm W w'):=fun W hW=>
    has_g ⟨z.g.b,z.g.b,z.g.hs⟩ s v z.A gn z.c z.HA gm z.hc gr W hsl (hu.b.calm hW).r hu.b.room hu.b.cap (hu.h.calm hW) (HM.out.calm (HCr.out.trans hW)) hg hv hgn hgm hgr
   have HT2 : Hid ((gs.take (k + 1)).countP (fun g=>hasS g.b g.hs s) = T + if v then 1 else 0):=by
    show (gs.take (k + 1)).countP (fun g=>hasS g.b g.hs s) = _
    rw [take_snoc hz,List.countP_append,HT.out,List.countP_cons,List.countP_nil,hv]
    simp
   obtain ⟨wb,hwb⟩ : ∃ wb,wb = wq.alloc (.cells #[.slice z.A gn z.c,.bool gr,.slice z.HA gm z.hc] 68):=⟨_,rfl⟩
   have hcb : Calm wq wb:=by
    show Below _ _ _
    rw [hwb]
    exact (Calm.refl _).alloc _
   have HCb:=Lib.hid hcb
   have HWb:=Lib.hid hwb
   clear hz hu hg hgn hgr hgm hv hcb hwb
   go_wp2_with fail
   rw [← HWb.out]
   refine (KH.out wb HCb.out).mono ?_
   rintro e w3 ⟨rfl,hc3⟩
   have HC3 : Hid (Calm w w3):=HCr.out.trans (HCb.out.trans hc3)
   clear hc3 c0 c1 c2
   cases v with
   |true=>
    go_wp2_with fail
    go_roundw
    case rel=>exact ⟨k + 1,T + 1,by omega,by omega,by go_num,by go_num,HT2.out,HC3.out⟩
    case measure=>simp [intOf];omega
   |false=>
    go_wp2_with fail
    go_roundw
    case rel=>exact ⟨k + 1,T,by omega,by omega,by go_num,rfl,HT2.out,HC3.out⟩
    case measure=>simp [intOf];omega
  ·obtain rfl : k = n:=by omega
   have HF : Hid (gs.countP (fun g=>hasS g.b g.hs s) = T):=by
    have:=HT.out
    rw [List.take_of_length_le (by rw [HN.out];exact Nat.le_refl _)] at this
    exact this
   go_wp2_with fail
   go_ret
   exact ⟨ret_int (by rw [HF.out]),HCr.out⟩
end Go.Proofs.YtnlnclefedohkaaGreatDoor
set_option linter.unusedVariables false
set_option linter.unusedSimpArgs false
namespace Go.Proofs.YtnlnclefedohkaaGreatDoor
open Go Go.RowKit Sy

theorem redK6 : RedK:=fun b ps A1 c1 PA nl N pc lr W hA hP h1 h2 h3 hb hg=>mreduce_c b ps A1 c1 PA nl N pc lr W hA hP h1 h2 h3 hb hg
theorem mov_c (es fs : List Ent) (n c n2 c2 : Nat) (A A2 : Option Addr) (w : World) (h : EntsA w A es) (hcn : n ≤ c) (hcc : c ≤ 9223372036854775807) (hn : es.length = n) (hs : ∀ x ∈ es,SmallE x) (h2 : EntsA w A2 fs) (hcn2 : n2 ≤ c2) (hcc2 : c2 ≤ 9223372036854775807) (hn2 : fs.length = n2) (hs2 : ∀ x ∈ fs,SmallE x) :
  Calls Tryz.prog 11 #[.slice A n c,.slice A2 n2 c2] w fun e w'=>RegOut (regsE ovOf es fs).1 (regsE ovOf es fs).2 w.heap.size e w' ∧ Calm w w':=mov_k es fs n c n2 c2 A A2 w h hcn hcc hn hs h2 hcn2 hcc2 hn2 hs2 redK6
theorem mag_c (es fs : List Ent) (n c n2 c2 : Nat) (A A2 : Option Addr) (w : World) (h : EntsA w A es) (hcn : n ≤ c) (hcc : c ≤ 9223372036854775807) (hn : es.length = n) (hs : ∀ x ∈ es,SmallE x) (h2 : EntsA w A2 fs) (hcn2 : n2 ≤ c2) (hcc2 : c2 ≤ 9223372036854775807) (hn2 : fs.length = n2) (hs2 : ∀ x ∈ fs,SmallE x) :
  Calls Tryz.prog 14 #[.slice A n c,.slice A2 n2 c2] w fun e w'=>RegOut (regsE agOf es fs).1 (regsE agOf es fs).2 w.heap.size e w' ∧ Calm w w':=mag_k es fs n c n2 c2 A A2 w h hcn hcc hn hs h2 hcn2 hcc2 hn2 hs2 redK6
end Go.Proofs.YtnlnclefedohkaaGreatDoor
set_option linter.unusedVariables false
set_option linter.unusedSimpArgs false
namespace Go.Proofs.YtnlnclefedohkaaGreatDoor
open Go Go.RowKit Sy
theorem smallK6 (es : List Ent) (n c : Nat) (A : Option Addr) (w : World) (h : EntsA w A es) (hcn : n ≤ c) (hcc : c ≤ 9223372036854775807) (hn : es.length = n) :
  Calls Tryz.prog 6 #[.slice A n c] w fun e w'=>(∃ b,e = .returned (.bool b) ∧ (b = true → ∀ x ∈ es,SizeE 60 x)) ∧ Calm w w':=
 (smallM_c es n c A w h hcn hcc hn).mono fun e w' ⟨⟨b,h1,h2⟩,h3⟩=>⟨⟨b,h1,fun hb=>(h2 hb).2⟩,h3⟩
theorem regsE_ok {f : Ent → Ent → Option (Option Reg)} {a b : List Ent} (h : (regsE f a b).2 = 0) : ((mapE a).2 = 0 ∧ (mapE b).2 = 0) ∧ regsL f (pairsL a b) = some (regsE f a b).1:=by
 unfold regsE at h ⊢
 by_cases h1 : (mapE a).2 ≠ 0
 ·rw [if_pos h1] at h
  exact absurd h h1
 ·rw [if_neg h1] at h ⊢
  by_cases h2 : (mapE b).2 ≠ 0
  ·rw [if_pos h2] at h
   exact absurd h h2
  ·rw [if_neg h2] at h ⊢
   refine ⟨⟨by simpa using h1,by simpa using h2⟩,?_⟩
   rcases hr : regsL f (pairsL a b) with _ | gs
   ·rw [hr] at h
    cases h
   ·rw [hr] at h
    simp only at h ⊢
    by_cases h32 : 32 < gs.length
    ·rw [if_pos h32] at h
     cases h
    ·rw [if_neg h32]
theorem regsE_len (f : Ent → Ent → Option (Option Reg)) (a b : List Ent) : (regsE f a b).1.length ≤ 32:=by
 unfold regsE
 split
 ·exact Nat.zero_le _
 ·split
  ·exact Nat.zero_le _
  ·split
   ·exact Nat.zero_le _
   ·split
    ·exact Nat.zero_le _
    ·rename_i h
     exact Nat.le_of_not_lt h
theorem ovOf_good {x y : Ent} (hx : ruleErr x.rule = 0) (hy : ruleErr y.rule = 0) {g : Reg} (h : ovOf x y = some (some g)) : gErr g = 0:=by
 unfold ovOf at h
 rcases hm : meetP x.left y.left with _ | m
 ·rw [hm] at h
  cases h
 ·rw [hm] at h
  exact redG_good (meetP_some hm).2.2.2 h
theorem regsE_good {f : Ent → Ent → Option (Option Reg)} (hf : ∀ x y g,ruleErr x.rule = 0 → ruleErr y.rule = 0 → f x y = some (some g) → gErr g = 0) (a b : List Ent) : ∀ g ∈ (regsE f a b).1,gErr g = 0:=fun g hg=>by
 by_cases h0 : (regsE f a b).2 = 0
 ·obtain ⟨⟨h1,h2⟩,h3⟩:=regsE_ok h0
  rw [(regsL_mem h3).2] at hg
  obtain ⟨⟨x,y⟩,hp,hfx⟩:=List.mem_filterMap.1 hg
  obtain ⟨hx,hy⟩:=pairs_mem hp
  refine hf x y g ((mapE_zero h1).1.good x hx).1 ((mapE_zero h2).1.good y hy).1 ?_
  rcases ho : f x y with _ | o
  ·rw [ho] at hfx
   cases hfx
  ·rw [ho] at hfx
   simp only [Option.getD_some] at hfx
   rw [hfx]
 ·have : (regsE f a b).1 = []:=by
   unfold regsE at h0 ⊢
   by_cases h1 : (mapE a).2 ≠ 0
   ·rw [if_pos h1]
   ·rw [if_neg h1] at h0 ⊢
    by_cases h2 : (mapE b).2 ≠ 0
    ·rw [if_pos h2]
    ·rw [if_neg h2] at h0 ⊢
     rcases hr : regsL f (pairsL a b) with _ | gs
     ·rfl
     ·rw [hr] at h0
      simp only at h0 ⊢
      by_cases h32 : 32 < gs.length
      ·rw [if_pos h32]
      ·rw [if_neg h32] at h0
       exact absurd rfl h0
  rw [this] at hg
  cases hg
theorem regs_cnt {gs : List Reg} (hg : ∀ g ∈ gs,gErr g = 0) {s : Str} {l : List Str} (hp : pathOf s = some l) : gs.countP (fun g=>hasS g.b g.hs s) = gs.countP (fun g=>hasG g l):=by
 refine List.countP_congr fun g h=>?_
 have hgg:=hg g h
 rw [hasS_hasR (gErr_zero hgg).1 (gErr_zero hgg).2.1]
 unfold hasR
 rw [hp]
 exact Iff.rfl
theorem regs_cnt0 {gs : List Reg} {s : Str} (hp : pathOf s = none) : gs.countP (fun g=>hasS g.b g.hs s) = 0:=by
 rw [List.countP_eq_zero]
 intro g hg
 rw [hasS_nopath hp]
 simp
theorem ovE_cnt {es fs : List Ent} (h : (regsE ovOf es fs).2 = 0) (s : Str) : (regsE ovOf es fs).1.countP (fun g=>hasS g.b g.hs s) = if (mfS es s).isSome && (mfS fs s).isSome then 1 else 0:=by
 obtain ⟨⟨h1,h2⟩,h3⟩:=regsE_ok h
 unfold mfS
 rw [if_pos h1,if_pos h2]
 rcases hp : pathOf s with _ | l
 ·rw [regs_cnt0 hp]
  unfold fwdM
  rw [hp]
  rfl
 ·rw [regs_cnt (regsE_good (fun x y g hx hy h=>ovOf_good hx hy h) es fs) hp]
  exact ov_count (mapE_zero h1).1 (mapE_zero h2).1 h3 hp
theorem agE_cnt {es fs : List Ent} (h : (regsE agOf es fs).2 = 0) (s : Str) : (regsE agOf es fs).1.countP (fun g=>hasS g.b g.hs s) = if ((mfS es s).isSome && (mfS fs s).isSome) && ((mfS es s).getD [] == (mfS fs s).getD []) then 1 else 0:=by
 obtain ⟨⟨h1,h2⟩,h3⟩:=regsE_ok h
 unfold mfS
 rw [if_pos h1,if_pos h2]
 rcases hp : pathOf s with _ | l
 ·rw [regs_cnt0 hp]
  unfold fwdM
  rw [hp]
  rfl
 ·rw [regs_cnt (regsE_good (fun x y g hx hy h=>ag_good hx hy h) es fs) hp,ag_count (mapE_zero h1).1 (mapE_zero h2).1 h3 hp]
  unfold sameF
  rcases fwdM es s with _ | a <;> rcases fwdM fs s with _ | b <;> rfl
theorem RegOut.r6 {gs : List Reg} {er : Int} {B : Nat} {e : Ending} {w' : World} (h : RegOut gs er B e w') (hg : ∀ g ∈ gs,gErr g = 0) {l : Nat} (hl : gs.length = l) : ∃ A c,e = .returned (.tuple #[.slice A l c,.int .i64 er]) ∧ l ≤ c ∧ GrsR w' A gs:=by
 obtain ⟨A,c,h1,h2,_,h3⟩:=h.r hg
 rw [hl] at h1 h2
 exact ⟨A,c,h1,h2,h3⟩
set_option maxHeartbeats 8000000 in
theorem mappingOverlapMeans_c (es fs : List Ent) (s : Str) (n c n2 c2 : Nat) (A A2 : Option Addr) (w : World) (h : EntsA w A es) (hcn : n ≤ c) (hcc : c ≤ 9223372036854775807) (hn : es.length = n) (h2 : EntsA w A2 fs) (hcn2 : n2 ≤ c2) (hcc2 : c2 ≤ 9223372036854775807) (hn2 : fs.length = n2) (hsl : s.length ≤ 1048576) (hM : MaxL w) :
  Calls Tryz.prog 5 #[.slice A n c,.slice A2 n2 c2,.string (bs s)] w fun e w'=>e = .returned (.bool true) ∧ Calm w w':=by
 have KS : Hid (∀ W,Calm w W → Calls Tryz.prog 6 #[.slice A n c] W fun e w'=>(∃ b,e = .returned (.bool b) ∧ (b = true → ∀ x ∈ es,SizeE 60 x)) ∧ Calm W w'):=fun W hW=>smallK6 es n c A W (h.calm hW) hcn hcc hn
 have KS2 : Hid (∀ W,Calm w W → Calls Tryz.prog 6 #[.slice A2 n2 c2] W fun e w'=>(∃ b,e = .returned (.bool b) ∧ (b = true → ∀ x ∈ fs,SizeE 60 x)) ∧ Calm W w'):=fun W hW=>smallK6 fs n2 c2 A2 W (h2.calm hW) hcn2 hcc2 hn2
 have KA : Hid (∀ W,Calm w W → Calls Tryz.prog 7 #[] W fun e w'=>e = .returned (.bool true) ∧ Calm W w'):=fun W hW=>awakeM_c W (hM.calm hW)
 obtain ⟨go,hgo⟩ : ∃ go,(regsE ovOf es fs).1 = go:=⟨_,rfl⟩
 obtain ⟨xo,hxo⟩ : ∃ xo,(regsE ovOf es fs).2 = xo:=⟨_,rfl⟩
 obtain ⟨lo,hlo⟩ : ∃ lo,go.length = lo:=⟨_,rfl⟩
 have hlol : lo ≤ 1048576:=by
  have:=regsE_len ovOf es fs
  rw [hgo,hlo] at this
  omega
 have hgdo : ∀ g ∈ go,gErr g = 0:=by
  rw [← hgo]
  exact regsE_good (fun x y g hx hy h=>ovOf_good hx hy h) es fs
 have KO1 : Hid ((∀ x ∈ es,SizeE 60 x) → (∀ x ∈ fs,SizeE 60 x) → ∀ W,Calm w W → Calls Tryz.prog 11 #[.slice A n c,.slice A2 n2 c2] W fun e w'=>(∃ A3 c3,e = .returned (.tuple #[.slice A3 lo c3,.int .i64 xo]) ∧ lo ≤ c3 ∧ GrsR w' A3 go) ∧ Calm W w'):=fun hs hs2 W hW=>
  (mov_c es fs n c n2 c2 A A2 W (h.calm hW) hcn hcc hn (fun x hx=>(hs x hx).mono (by decide)) (h2.calm hW) hcn2 hcc2 hn2 (fun x hx=>(hs2 x hx).mono (by decide))).mono fun e w' ⟨h1,h2⟩=>by
   rw [hgo,hxo] at h1
   exact ⟨h1.r6 hgdo hlo,h2⟩
 obtain ⟨ga,hga⟩ : ∃ ga,(regsE agOf es fs).1 = ga:=⟨_,rfl⟩
 obtain ⟨xa,hxa⟩ : ∃ xa,(regsE agOf es fs).2 = xa:=⟨_,rfl⟩
 obtain ⟨la,hla⟩ : ∃ la,ga.length = la:=⟨_,rfl⟩
 have hlal : la ≤ 1048576:=by
  have:=regsE_len agOf es fs
  rw [hga,hla] at this
  omega
 have hgda : ∀ g ∈ ga,gErr g = 0:=by
  rw [← hga]
  exact regsE_good (fun x y g hx hy h=>ag_good hx hy h) es fs
 have KA1 : Hid ((∀ x ∈ es,SizeE 60 x) → (∀ x ∈ fs,SizeE 60 x) → ∀ W,Calm w W → Calls Tryz.prog 14 #[.slice A n c,.slice A2 n2 c2] W fun e w'=>(∃ A3 c3,e = .returned (.tuple #[.slice A3 la c3,.int .i64 xa]) ∧ la ≤ c3 ∧ GrsR w' A3 ga) ∧ Calm W w'):=fun hs hs2 W hW=>
  (mag_c es fs n c n2 c2 A A2 W (h.calm hW) hcn hcc hn (fun x hx=>(hs x hx).mono (by decide)) (h2.calm hW) hcn2 hcc2 hn2 (fun x hx=>(hs2 x hx).mono (by decide))).mono fun e w' ⟨h1,h2⟩=>by
   rw [hga,hxa] at h1
   exact ⟨h1.r6 hgda hla,h2⟩
 obtain ⟨st,hst⟩ : ∃ st,(mfS es s).getD [] = st:=⟨_,rfl⟩
 obtain ⟨so,hso⟩ : ∃ so,(mfS es s).isSome = so:=⟨_,rfl⟩
 obtain ⟨tt,htt⟩ : ∃ tt,(mfS fs s).getD [] = tt:=⟨_,rfl⟩
 obtain ⟨ti,hti⟩ : ∃ ti,(mfS fs s).isSome = ti:=⟨_,rfl⟩
 have eF : mfV es s = .tuple #[.string (bs st),.bool so]:=by rw [mfV_eq,optV,hst,hso]
 have eG : mfV fs s = .tuple #[.string (bs tt),.bool ti]:=by rw [mfV_eq,optV,htt,hti]
 have KF : Hid ((∀ x ∈ es,SizeE 60 x) → s.length ≤ 300 → ∀ W,Calm w W → Calls Tryz.prog 15 #[.slice A n c,.string (bs s)] W fun e w'=>e = .returned (.tuple #[.string (bs st),.bool so]) ∧ Calm W w'):=fun hs h3 W hW=>by
  have:=mfwd_c es s n c A W (h.calm hW) hcn hcc hn (fun x hx=>(hs x hx).mono (by decide)) (by omega) (hM.calm hW)
  rw [eF] at this
  exact this
 have KG : Hid ((∀ x ∈ fs,SizeE 60 x) → s.length ≤ 300 → ∀ W,Calm w W → Calls Tryz.prog 15 #[.slice A2 n2 c2,.string (bs s)] W fun e w'=>e = .returned (.tuple #[.string (bs tt),.bool ti]) ∧ Calm W w'):=fun hs h3 W hW=>by
  have:=mfwd_c fs s n2 c2 A2 W (h2.calm hW) hcn2 hcc2 hn2 (fun x hx=>(hs x hx).mono (by decide)) (by omega) (hM.calm hW)
  rw [eG] at this
  exact this
 obtain ⟨sb,hsb⟩ : ∃ sb,(so && ti) = sb:=⟨_,rfl⟩
 obtain ⟨b1,hba⟩ : ∃ b1 : Nat,(if sb then 1 else 0) = b1:=⟨_,rfl⟩
 obtain ⟨b2,hbb2⟩ : ∃ b2 : Nat,(if sb && (st == tt) then 1 else 0) = b2:=⟨_,rfl⟩
 have KNo : Hid (xo = 0 → s.length ≤ 300 → ∀ W A2 c2,Calm w W → GrsR W A2 go → Calls Tryz.prog 16 #[.slice A2 lo c2,.string (bs s)] W fun e w'=>e = .returned (.int .i64 (b1 : Int)) ∧ Calm W w'):=fun h0 h3 W A2 c2 hW hG=>by
  have:=count_c go s lo c2 A2 W hG hlo hlol hgdo (by omega) (hM.calm hW)
  rw [← hgo,ovE_cnt (hxo.trans h0),hso,hti,hsb,hba] at this
  exact this
 have KNa : Hid (xa = 0 → s.length ≤ 300 → ∀ W A2 c2,Calm w W → GrsR W A2 ga → Calls Tryz.prog 16 #[.slice A2 la c2,.string (bs s)] W fun e w'=>e = .returned (.int .i64 (b2 : Int)) ∧ Calm W w'):=fun h0 h3 W A2 c2 hW hG=>by
  have:=count_c ga s la c2 A2 W hG hla hlal hgda (by omega) (hM.calm hW)
  rw [← hga,agE_cnt (hxa.trans h0),hso,hti,hst,htt,hsb,hbb2] at this
  exact this
 have hsz : (bs s).size = s.length:=by simp [bs,ByteArray.size]
 have HSb:=Lib.hid hsb
 have HBa:=Lib.hid hba
 have HBb:=Lib.hid hbb2
 clear h hn h2 hn2 hM hst hso htt hti eF eG hgo hxo hlo hga hxa hla hgdo hgda hsb hba hbb2
 go_enter Tryz.func5,Tryz.ntmps5
 go_wp2_with fail
 refine (KS.out w (Calm.refl _)).mono ?_
 rintro e wa0 ⟨⟨b0,rfl,hb0⟩,hc0⟩
 have HB0:=Lib.hid hb0
 have HCa0 : Hid (Calm w wa0):=hc0
 clear hb0 hc0
 cases b0 with
 |false=>
  go_wp2_with fail
  refine (KA.out wa0 HCa0.out).mono ?_
  rintro e wz ⟨rfl,hcz⟩
  go_wp2_with fail
  go_ret
  exact ⟨rfl,HCa0.out.trans hcz⟩
 |true=>
  have HS:=Lib.hid (HB0.out rfl)
  go_wp2_with fail
  refine (KS2.out wa0 HCa0.out).mono ?_
  rintro e wa1 ⟨⟨b1,rfl,hb1⟩,hc1⟩
  have HB1:=Lib.hid hb1
  have HCa1 : Hid (Calm w wa1):=HCa0.out.trans hc1
  clear hb1 hc1
  cases b1 with
  |false=>
   go_wp2_with fail
   refine (KA.out wa1 HCa1.out).mono ?_
   rintro e wz ⟨rfl,hcz⟩
   go_wp2_with fail
   go_ret
   exact ⟨rfl,HCa1.out.trans hcz⟩
  |true=>
   have HS2:=Lib.hid (HB1.out rfl)
   by_cases h3 : s.length ≤ 300
   ·go_wp2_with fail
    refine (KO1.out HS.out HS2.out wa1 HCa1.out).mono ?_
    rintro e w3 ⟨⟨A3,c3,rfl,hl3,hG3⟩,hc3⟩
    have HC3 : Hid (Calm w w3):=HCa1.out.trans hc3
    have HGo:=Lib.hid hG3
    clear hc3 hG3
    go_wp2_with fail
    refine (KA1.out HS.out HS2.out w3 HC3.out).mono ?_
    rintro e w4 ⟨⟨A4,c4,rfl,hl4,hG4⟩,hc4⟩
    have HC4 : Hid (Calm w w4):=HC3.out.trans hc4
    have HC34 : Hid (Calm w3 w4):=hc4
    have HGa:=Lib.hid hG4
    clear hc4 hG4
    go_wp2_with fail
    refine (KF.out HS.out h3 w4 HC4.out).mono ?_
    rintro e w5 ⟨rfl,hc5⟩
    have HC5 : Hid (Calm w w5):=HC4.out.trans hc5
    have HC45 : Hid (Calm w4 w5):=hc5
    clear hc5
    go_wp2_with fail
    refine (KG.out HS2.out h3 w5 HC5.out).mono ?_
    rintro e w6 ⟨rfl,hc6⟩
    have HC6 : Hid (Calm w w6):=HC5.out.trans hc6
    have HC46 : Hid (Calm w4 w6):=HC45.out.trans hc6
    clear hc6
    go_upto_region 8 with (fail)
    go_cut [57] (fun s wx=>s = .bool sb ∧ wx = w6)
    case first=>
     have hsb:=HSb.out
     clear HSb HBa HBb KNa KNo KA
     cases so <;> cases ti
     all_goals
      simp only [Bool.and_true,Bool.and_false] at hsb
      subst hsb
      go_wp2_with fail
      go_meet
      case rel=>exact ⟨rfl,rfl⟩
    case rest=>
     obtain ⟨rfl,hww⟩:=hcut
     subst hww
     go_upto_if 57 with (fail)
     go_cut [15] (fun s wx=>s = .int .i64 (b1 : Nat) ∧ wx = wc)
     case first=>
      have hba:=HBa.out
      clear HSb HBa HBb KNa KNo KA
      cases sb
      all_goals
       simp only [Bool.false_eq_true,if_false,if_true] at hba
       subst hba
       go_wp2_with fail
       go_meet
       case rel=>exact ⟨rfl,rfl⟩
     obtain ⟨rfl,hww2⟩:=hcut
     obtain ⟨w6,rfl⟩ : ∃ w6,w6 = wc:=⟨_,rfl⟩
     subst hww2
     by_cases hxo0 : xo = 0
     ·subst hxo0
      have KNo1:=Lib.hid (KNo.out rfl h3)
      clear KNo
      go_wp2_with fail
      refine (KNo1.out w6 A3 c3 HC6.out (HGo.out.calm (HC34.out.trans HC46.out))).mono ?_
      rintro e w7 ⟨rfl,hc7⟩
      have HC7 : Hid (Calm w w7):=HC6.out.trans hc7
      have HCx : Hid (Calm w4 w7):=HC46.out.trans hc7
      clear hc7
      go_upto_if 69 with (fail)
      obtain ⟨se,hse⟩ : ∃ se,(st == tt) = se:=⟨_,rfl⟩
      rw [hse]
      have HSe:=Lib.hid hse
      clear hse
      go_cut [15] (fun s wx=>s = .int .i64 (b2 : Nat) ∧ wx = w7)
      case first=>
       have hbb2:=HBb.out
       have hba:=HBa.out
       rw [HSe.out] at hbb2
       clear HBa HBb KNa KA
       cases se with
       |true=>
        rw [Bool.and_true,hba] at hbb2
        subst hbb2
        clear hba
        go_wp2_with fail
        go_meet
        case rel=>exact ⟨rfl,rfl⟩
       |false=>
        rw [Bool.and_false] at hbb2
        simp only [Bool.false_eq_true,if_false] at hbb2
        subst hbb2
        clear hba
        go_wp2_with fail
        go_meet
        case rel=>exact ⟨rfl,rfl⟩
      case rest=>
       obtain ⟨rfl,hww3⟩:=hcut
       obtain ⟨w7b,rfl⟩ : ∃ w7b,w7b = wc:=⟨_,rfl⟩
       subst hww3
       by_cases hxa0 : xa = 0
       ·subst hxa0
        have KNa1:=Lib.hid (KNa.out rfl h3)
        have hbb : ((b2 : Int) == (b2 : Int)) = true:=by simp
        clear KNa
        go_wp2_with fail
        refine (KNa1.out w7b A4 c4 HC7.out (HGa.out.calm HCx.out)).mono ?_
        rintro e w8 ⟨rfl,hc8⟩
        have HC8 : Hid (Calm w w8):=HC7.out.trans hc8
        clear hc8
        go_wp2_with fail
        refine (KA.out w8 HC8.out).mono ?_
        rintro e wz ⟨rfl,hcz⟩
        go_wp2_with fail
        go_ret
        exact ⟨rfl,HC8.out.trans hcz⟩
       ·have hb : (xa != 0) = true:=by simpa using hxa0
        clear KNa hxa0
        go_wp2_with fail
        refine (KA.out w7b HC7.out).mono ?_
        rintro e wz ⟨rfl,hcz⟩
        go_wp2_with fail
        go_ret
        exact ⟨rfl,HC7.out.trans hcz⟩
     ·have hb : (xo == 0) = false:=by rw [beq_eq_false_iff_ne];exact hxo0
      have HCx:=HC46
      clear KNo hxo0
      go_upto_if 69 with (fail)
      obtain ⟨se,hse⟩ : ∃ se,(st == tt) = se:=⟨_,rfl⟩
      rw [hse]
      have HSe:=Lib.hid hse
      clear hse
      go_cut [15] (fun s wx=>s = .int .i64 (b2 : Nat) ∧ wx = w6)
      case first=>
       have hbb2:=HBb.out
       have hba:=HBa.out
       rw [HSe.out] at hbb2
       clear HBa HBb KNa KA
       cases se with
       |true=>
        rw [Bool.and_true,hba] at hbb2
        subst hbb2
        clear hba
        go_wp2_with fail
        go_meet
        case rel=>exact ⟨rfl,rfl⟩
       |false=>
        rw [Bool.and_false] at hbb2
        simp only [Bool.false_eq_true,if_false] at hbb2
        subst hbb2
        clear hba
        go_wp2_with fail
        go_meet
        case rel=>exact ⟨rfl,rfl⟩
      case rest=>
       obtain ⟨rfl,hww3⟩:=hcut
       obtain ⟨w7b,rfl⟩ : ∃ w7b,w7b = wc:=⟨_,rfl⟩
       subst hww3
       by_cases hxa0 : xa = 0
       ·subst hxa0
        have KNa1:=Lib.hid (KNa.out rfl h3)
        have hbb : ((b2 : Int) == (b2 : Int)) = true:=by simp
        clear KNa
        go_wp2_with fail
        refine (KNa1.out w7b A4 c4 HC6.out (HGa.out.calm HCx.out)).mono ?_
        rintro e w8 ⟨rfl,hc8⟩
        have HC8 : Hid (Calm w w8):=HC6.out.trans hc8
        clear hc8
        go_wp2_with fail
        refine (KA.out w8 HC8.out).mono ?_
        rintro e wz ⟨rfl,hcz⟩
        go_wp2_with fail
        go_ret
        exact ⟨rfl,HC8.out.trans hcz⟩
       ·have hb : (xa != 0) = true:=by simpa using hxa0
        clear KNa hxa0
        go_wp2_with fail
        refine (KA.out w7b HC6.out).mono ?_
        rintro e wz ⟨rfl,hcz⟩
        go_wp2_with fail
        go_ret
        exact ⟨rfl,HC6.out.trans hcz⟩
   ·go_wp2_with fail
    refine (KA.out wa1 HCa1.out).mono ?_
    rintro e wz ⟨rfl,hcz⟩
    go_wp2_with fail
    go_ret
    exact ⟨rfl,HCa1.out.trans hcz⟩
end Go.Proofs.YtnlnclefedohkaaGreatDoor
