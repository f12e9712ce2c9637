/- Walk: the law MappingComposes. -/
import Derived.Deep.RegionHeld3
import Derived.Test.YtnlnclefedohkaaGreatDoorZGChkU
import Derived.Test.YtnlnclefedohkaaGreatDoorZEntM
import Derived.Test.YtnlnclefedohkaaGreatDoorZColE
import Derived.Test.YtnlnclefedohkaaGreatDoorZCommonP
import Derived.Test.YtnlnclefedohkaaGreatDoorZRed3W
import Derived.Test.YtnlnclefedohkaaGreatDoorZPutA
import Derived.Test.YtnlnclefedohkaaGreatDoorZChainW
import Derived.Test.YtnlnclefedohkaaGreatDoorZBwdM
import Derived.Test.YtnlnclefedohkaaGreatDoorZComK
import Derived.Test.YtnlnclefedohkaaGreatDoorZRComW
set_option linter.unusedVariables false
set_option linter.unusedSimpArgs false
namespace Go.Proofs.YtnlnclefedohkaaGreatDoor
open Go Go.RowKit Sy

def patsOf (x : Ent) : List Pat:=x.left :: x.right :: x.hs
def szTo (ps : List Pat) (k : Nat) : Nat:=((ps.take k).map fun p=>p.parts.length).sum
def szE (es : List Ent) (k : Nat) : Nat:=((es.take k).map fun x=>szTo (patsOf x) (patsOf x).length).sum
theorem szTo_succ {ps : List Pat} {k : Nat} {p : Pat} (h : ps[k]? = some p) : szTo ps (k + 1) = szTo ps k + p.parts.length:=by
 obtain ⟨hlt,rfl⟩:=List.getElem?_eq_some_iff.1 h
 rw [szTo,List.take_succ_eq_append_getElem hlt,List.map_append,List.sum_append,szTo]
 simp
theorem szE_succ {es : List Ent} {k : Nat} {x : Ent} (h : es[k]? = some x) : szE es (k + 1) = szE es k + szTo (patsOf x) (patsOf x).length:=by
 obtain ⟨hlt,rfl⟩:=List.getElem?_eq_some_iff.1 h
 rw [szE,List.take_succ_eq_append_getElem hlt,List.map_append,List.sum_append,szE]
 simp
theorem sum_le {α : Type} {f : α → Nat} {b : Nat} : ∀ {l : List α},(∀ x ∈ l,f x ≤ b) → (l.map f).sum ≤ l.length * b
 |[],_=>by simp
 |a :: l,h=>by
  have ih:=sum_le (l:=l) fun x hx=>h x (List.mem_cons_of_mem _ hx)
  have:=h a List.mem_cons_self
  rw [List.map_cons,List.sum_cons,List.length_cons,Nat.add_mul,Nat.one_mul]
  omega
theorem le_sum {α : Type} {f : α → Nat} : ∀ {l : List α} {a : α},a ∈ l → f a ≤ (l.map f).sum
 |b :: l,a,h=>by
  rw [List.map_cons,List.sum_cons]
  rcases List.mem_cons.1 h with rfl | h
  ·omega
  ·have:=le_sum (f:=f) h
   omega
theorem szTo_le {ps : List Pat} {B : Nat} (h : ∀ p ∈ ps,p.parts.length ≤ B) (k : Nat) : szTo ps k ≤ ps.length * B:=by
 have h1 : szTo ps k ≤ (ps.take k).length * B:=sum_le (f:=fun p : Pat=>p.parts.length) fun p hp=>h p (List.mem_of_mem_take hp)
 have h2 : (ps.take k).length ≤ ps.length:=by rw [List.length_take];omega
 have h3:=Nat.mul_le_mul_right B h2
 omega
theorem szE_le {es : List Ent} {B : Nat} (h : ∀ x ∈ es,szTo (patsOf x) (patsOf x).length ≤ B) (k : Nat) : szE es k ≤ es.length * B:=by
 have h1 : szE es k ≤ (es.take k).length * B:=sum_le (f:=fun x : Ent=>szTo (patsOf x) (patsOf x).length) fun x hx=>h x (List.mem_of_mem_take hx)
 have h2 : (es.take k).length ≤ es.length:=by rw [List.length_take];omega
 have h3:=Nat.mul_le_mul_right B h2
 omega
def SmallMEnd (es : List Ent) (e : Ending) : Prop:=∃ b,e = .returned (.bool b) ∧ (b = true → es.length ≤ 40 ∧ ∀ x ∈ es,SizeE 60 x)
theorem small_of {es : List Ent} (hn : szE es es.length ≤ 300) (hs : ∀ j x,j < es.length → es[j]? = some x → ∀ p ∈ patsOf x,∀ s ∈ p.parts,s.length ≤ 60) : ∀ x ∈ es,SizeE 60 x:=fun x hx=>by
 have h1 : szTo (patsOf x) (patsOf x).length ≤ szE es es.length:=by
  rw [szE,List.take_length]
  exact le_sum (f:=fun x : Ent=>szTo (patsOf x) (patsOf x).length) hx
 have h2 : ∀ p ∈ patsOf x,p.parts.length ≤ 300:=fun p hp=>by
  have : p.parts.length ≤ szTo (patsOf x) (patsOf x).length:=by
   rw [szTo,List.take_length]
   exact le_sum (f:=fun p : Pat=>p.parts.length) hp
  omega
 obtain ⟨j,hj,he⟩:=List.mem_iff_getElem.1 hx
 have h3:=hs j x hj (by rw [List.getElem?_eq_getElem hj,he])
 exact ⟨h2 _ List.mem_cons_self,h3 _ List.mem_cons_self,h2 _ (List.mem_cons_of_mem _ List.mem_cons_self),h3 _ (List.mem_cons_of_mem _ List.mem_cons_self),fun p hp=>⟨h2 _ (List.mem_cons_of_mem _ (List.mem_cons_of_mem _ hp)),h3 _ (List.mem_cons_of_mem _ (List.mem_cons_of_mem _ hp))⟩⟩
theorem own_lit2 {w : World} (x y : NewP) {n m : Nat} {r q : Bool} (h1 : x.p.parts.length = n) (h2 : y.p.parts.length = m) (h3 : x.p.rest = r) (h4 : y.p.rest = q) : OwnX encP 2 40 w (w.alloc (.cells #[.slice x.A n x.c,.bool r,.slice y.A m y.c,.bool q] 40)) (.slice (some ⟨w.heap.size,0,none⟩) 2 2) [x,y]:=by
 subst h1 h2 h3 h4
 exact ⟨(Calm.refl w).alloc _,by
  have:=World.ownsRow_lit (base:=w.heap.size) (e:=40) (size:=2) w #[.slice x.A x.p.parts.length x.c,.bool x.p.rest,.slice y.A y.p.parts.length y.c,.bool y.p.rest] 2 (Nat.le_refl _) (by decide) rfl
  simpa [encs,encP] using this⟩
theorem len2 (a b : NewP) {zs : List NewP} {n : Nat} (h : zs.length = n) : ([a,b] ++ zs).length = n + 2:=by
 subst h
 rfl
theorem OwnX.shapeP {w0 w : World} {v : Value} {l : List NewP} (h : OwnX encP 2 40 w0 w v l) : ∃ A c,v = .slice A l.length c ∧ l.length ≤ c ∧ c ≤ 9223372036854775807 ∧ ReadX encP 2 w A l:=by
 rcases h.row encP_len with ⟨rfl,rfl⟩ | ⟨g,c,rfl,h1,h2,_,hr⟩
 ·exact ⟨none,0,rfl,Nat.le_refl _,by omega,fun h=>absurd rfl h⟩
 ·exact ⟨_,c,rfl,h1,h2,fun _=>⟨g,0,rfl,hr.lt,fun k x hk i u hu=>hr.cell k x hk i u hu⟩⟩
theorem ReadX.getP {w : World} {A : Option Addr} {l : List NewP} (h : ReadX encP 2 w A l) {k : Nat} (hk : k < l.length) : ∃ (b o : Nat) (y : NewP),A = some ⟨b,o,none⟩ ∧ b < w.heap.size ∧ l[k]? = some y ∧ w.cell? ⟨b,o + k * 2,none⟩ = some (.slice y.A y.p.parts.length y.c) ∧ w.cell? ⟨b,o + k * 2 + 1,none⟩ = some (.bool y.p.rest):=by
 obtain ⟨b,o,hA,hb,hc⟩:=h (fun e=>by rw [e] at hk;simp at hk)
 have hz:=List.getElem?_eq_getElem hk
 exact ⟨b,o,l[k],hA,hb,hz,hc k _ hz 0 _ rfl,hc k _ hz 1 _ rfl⟩
set_option maxHeartbeats 8000000 in
theorem smallM_c (es : List Ent) (n c : Nat) (A : Option Addr) (w : World) (h : EntsA w A es) (hcn : n ≤ c) (hcc : c ≤ 9223372036854775807) (hn : es.length = n) :
  Calls Tryz.prog 6 #[.slice A n c] w fun e w'=>SmallMEnd es e ∧ Calm w w':=by
 have hl : n ≤ 1048576:=by rw [← hn];exact h.1
 have hall : ∀ x ∈ es,(patsOf x).length ≤ 1048578 ∧ ∀ p ∈ patsOf x,p.parts.length ≤ 1048576:=fun x hx=>by
  obtain ⟨_,zs,rfl,_,h3⟩:=h
  obtain ⟨z,hz,rfl⟩:=List.mem_map.1 hx
  have hz2:=h3 z hz
  refine ⟨by have:=hz2.h.len;simp only [patsOf,List.length_cons];omega,fun p hp=>?_⟩
  rcases List.mem_cons.1 hp with rfl | hp
  ·exact hz2.l.len
  ·rcases List.mem_cons.1 hp with rfl | hp
   ·exact hz2.r.len
   ·obtain ⟨i,hi,he⟩:=List.mem_iff_getElem.1 hp
    obtain ⟨_,_,q,_,_,_,_,hq,_,_,_,_,h5⟩:=hz2.h.get hi
    rw [List.getElem?_eq_getElem hi,he] at hq
    cases hq
    exact h5.len
 have hB : ∀ x ∈ es,∀ j,szTo (patsOf x) j ≤ 1099513724928:=fun x hx j=>by
  have h2:=hall x hx
  have h3:=szTo_le h2.2 j
  omega
 have HSz : Hid (∀ k,szE es k ≤ 1152923703630102528):=fun k=>by
  have h1:=szE_le (fun x hx=>hB x hx _) k
  have h2:=h.1
  omega
 have HSt:=Lib.hid hB
 have HE:=Lib.hid h
 have HN:=Lib.hid hn
 have HAll:=Lib.hid hall
 clear h hn hall hB
 go_enter Tryz.func6,Tryz.ntmps6
 go_wp2_with fail
 go_loopw [3,12] (fun v u wr=>∃ k : Nat,k ≤ n ∧ u = .int .i64 k ∧ v = .int .i64 (szE es k : Nat) ∧ Hid (Calm w wr) ∧ Hid (∀ j x,j < k → es[j]? = some x → ∀ p ∈ patsOf x,∀ s ∈ p.parts,s.length ≤ 60)) (fun _ u _=>n - (intOf u).toNat)
 case atStart=>exact ⟨0,Nat.zero_le _,rfl,by simp [szE],Calm.refl _,fun j x hj=>absurd hj (Nat.not_lt_zero _)⟩
 case round=>
  obtain ⟨k,hk,rfl,rfl,HCr,HF⟩:=hrel
  obtain ⟨wq,rfl⟩ : ∃ wq,wq = wr:=⟨_,rfl⟩
  by_cases hlt : k < n
  ·obtain ⟨b,o,z,rfl,hb,hz,c0,c1,c2,c3,c4,hu⟩:=(HE.out.calm HCr.out).get (k:=k) (by rw [HN.out];exact hlt)
   obtain ⟨nl,hnl⟩ : ∃ nl,z.e.left.parts.length = nl:=⟨_,rfl⟩
   obtain ⟨nr,hnr⟩ : ∃ nr,z.e.right.parts.length = nr:=⟨_,rfl⟩
   obtain ⟨lr,hlr⟩ : ∃ lr,z.e.left.rest = lr:=⟨_,rfl⟩
   obtain ⟨rr,hrr⟩ : ∃ rr,z.e.right.rest = rr:=⟨_,rfl⟩
   obtain ⟨hn,hhn⟩ : ∃ hn,z.e.hs.length = hn:=⟨_,rfl⟩
   rw [hnl] at c0
   rw [hlr] at c1
   rw [hnr] at c2
   rw [hrr] at c3
   rw [hhn] at c4
   obtain ⟨zs,hzs,hX,hzu⟩:=hu.h.places
   have hzl : zs.length = hn:=by rw [← hhn,← hzs,List.length_map]
   have hhl : hn ≤ 1048576:=by rw [← hhn];exact hu.h.len
   have HX : Hid (∀ W,Calm wq W → ReadX encP 2 W z.HA zs):=fun W hW=>hX.calm hW
   have HP : Hid (patsOf z.e = ((⟨z.LA,z.lc,z.e.left⟩ : NewP) :: (⟨z.RA,z.rc,z.e.right⟩ : NewP) :: zs).map (·.p)):=by
    show patsOf z.e = _
    rw [List.map_cons,List.map_cons,hzs]
    rfl
   have HU : Hid (∀ y ∈ ((⟨z.LA,z.lc,z.e.left⟩ : NewP) :: (⟨z.RA,z.rc,z.e.right⟩ : NewP) :: zs),y.p.parts.length ≤ y.c ∧ y.c ≤ 9223372036854775807 ∧ StrsU wq y.A y.p.parts):=fun y hy=>by
    rcases List.mem_cons.1 hy with rfl | hy
    ·exact ⟨hu.lroom,hu.lcap,hu.l⟩
    ·rcases List.mem_cons.1 hy with rfl | hy
     ·exact ⟨hu.rroom,hu.rcap,hu.r⟩
     ·exact hzu y hy
   have HZ:=Lib.hid hz
   have HLit : Hid (OwnX encP 2 40 (wq.alloc (.cells #[.slice z.LA nl z.lc,.bool lr,.slice z.RA nr z.rc,.bool rr,.slice z.HA hn z.hc] 43)) ((wq.alloc (.cells #[.slice z.LA nl z.lc,.bool lr,.slice z.RA nr z.rc,.bool rr,.slice z.HA hn z.hc] 43)).alloc (.cells #[.slice z.LA nl z.lc,.bool lr,.slice z.RA nr z.rc,.bool rr] 40)) (.slice (some ⟨wq.heap.size + 1,0,none⟩) 2 2) [⟨z.LA,z.lc,z.e.left⟩,⟨z.RA,z.rc,z.e.right⟩]):=by
    have:=own_lit2 (w:=wq.alloc (.cells #[.slice z.LA nl z.lc,.bool lr,.slice z.RA nr z.rc,.bool rr,.slice z.HA hn z.hc] 43)) ⟨z.LA,z.lc,z.e.left⟩ ⟨z.RA,z.rc,z.e.right⟩ hnl hnr hlr hrr
    rw [World.size_alloc] at this
    exact this
   have HSk:=HSz.out k
   have HZl:=Lib.hid hzl
   have HTs : Hid (∀ j,szTo (patsOf z.e) j ≤ 1099513724928):=HSt.out z.e (List.mem_of_getElem? hz)
   have HPl : Hid (∀ y ∈ ((⟨z.LA,z.lc,z.e.left⟩ : NewP) :: (⟨z.RA,z.rc,z.e.right⟩ : NewP) :: zs),y.p.parts.length ≤ 1048576):=fun y hy=>(HU.out y hy).2.2.len
   clear hz hu hzs hX hzu hnl hnr hlr hrr hhn hzl
   go_wp2_with (at_builtin;go_loud (refine wpList_append_xs (enc:=encP) (K:=2) (T:=40) Tryz.underlying41 info_patE rfl (by decide) (by decide) encP_len encP_one rfl (.tmp 20) (.tmp 22) rfl _ _ [⟨z.LA,z.lc,z.e.left⟩,⟨z.RA,z.rc,z.e.right⟩] zs rfl HLit.out _ hn z.hc rfl HZl.out (HX.out _ (((Calm.refl _).alloc _).alloc _)) (by show 2 + hn ≤ 2000000;omega) ?_;intro v5 w5 hown5 hg5;obtain ⟨A5,c5,rfl,h51,h52,hX5⟩:=hown5.shapeP;have hc5 : Calm wq w5:=Calm.trans ((Calm.refl _).alloc _) hown5.calm;have hl5 : ([⟨z.LA,z.lc,z.e.left⟩,⟨z.RA,z.rc,z.e.right⟩] ++ zs : List NewP).length = hn + 2:=len2 _ _ HZl.out;rw [hl5] at h51 ⊢;clear hl5 hown5 hg5))
   have HX5:=Lib.hid hX5
   have HC5:=Lib.hid hc5
   clear hX5 hc5 c0 c1 c2 c3 c4
   obtain ⟨S0,hS0⟩ : ∃ S0,szE es k = S0:=⟨_,rfl⟩
   rw [hS0] at HSk ⊢
   go_loopw [3,25] (fun v u wp=>∃ j T : Nat,j ≤ hn + 2 ∧ u = .int .i64 j ∧ v = .int .i64 T ∧ T = S0 + szTo (patsOf z.e) j ∧ Hid (Calm w5 wp) ∧ Hid (∀ i p,i < j → (patsOf z.e)[i]? = some p → ∀ s ∈ p.parts,s.length ≤ 60)) (fun _ u _=>hn + 2 - (intOf u).toNat)
   case atStart=>exact ⟨0,S0,Nat.zero_le _,rfl,rfl,by simp [szTo],Calm.refl _,fun j x hj=>absurd hj (Nat.not_lt_zero _)⟩
   case round=>
    obtain ⟨j,T,hj,rfl,rfl,hT,HCj,HG⟩:=hrel
    obtain ⟨wp,rfl⟩ : ∃ wp,wp = wr:=⟨_,rfl⟩
    by_cases hlt2 : j < hn + 2
    ·obtain ⟨b5,o5,y,rfl,hb5,hy,d0,d1⟩:=(HX5.out.calm HCj.out).getP (k:=j) (by rw [List.length_append,HZl.out];simp only [List.length_cons,List.length_nil] <;> omega)
     have hyU:=HU.out y (List.mem_of_getElem? hy)
     have HYU : Hid (StrsU wp y.A y.p.parts):=hyU.2.2.calm (HC5.out.trans HCj.out)
     have hyc:=hyU.1
     have hycc:=hyU.2.1
     have hyl:=hyU.2.2.len
     have HY : Hid ((patsOf z.e)[j]? = some y.p):=by
      show _ = _
      rw [HP.out,List.getElem?_map]
      show Option.map _ (([⟨z.LA,z.lc,z.e.left⟩,⟨z.RA,z.rc,z.e.right⟩] ++ zs : List NewP)[j]?) = _
      rw [hy]
      rfl
     obtain ⟨pn,hpn⟩ : ∃ pn,y.p.parts.length = pn:=⟨_,rfl⟩
     rw [hpn] at d0 hyc hyl
     have HPn:=Lib.hid hpn
     have hTb:=HTs.out j
     clear hy hyU hpn
     go_wp2_with fail
     go_loopw [37] (fun u wr=>∃ i : Nat,i ≤ pn ∧ u = .int .i64 i ∧ Hid (Calm wp wr) ∧ Hid (∀ q s,q < i → y.p.parts[q]? = some s → s.length ≤ 60)) (fun u _=>pn - (intOf u).toNat)
     case atStart=>exact ⟨0,Nat.zero_le _,rfl,(Calm.refl _).alloc _,fun q s hq=>absurd hq (Nat.not_lt_zero _)⟩
     case round=>
      obtain ⟨i,hi,rfl,HCi,HQ⟩:=hrel
      by_cases hlt3 : i < pn
      ·obtain ⟨b2,o2,l,hAy,hb2,hl2,hll,hcl⟩:=(HYU.out.calm HCi.out).get (k:=i) (by rw [HPn.out];exact hlt3)
       have HL:=Lib.hid hl2
       clear hl2 d0 d1
       rw [hAy]
       by_cases h60 : l.length ≤ 60
       ·go_wp2
        go_roundw
        case rel=>
         refine ⟨i + 1,by omega,by go_num,HCi.out,fun q s hq hs=>?_⟩
         by_cases e : q = i
         ·subst e
          rw [HL.out] at hs
          cases hs
          exact h60
         ·exact HQ.out q s (by omega) hs
        case measure=>simp [intOf];omega
       ·go_wp2
        go_ret
        exact ⟨⟨false,rfl,fun h=>by cases h⟩,HCr.out.trans (HC5.out.trans (HCj.out.trans HCi.out))⟩
      ·obtain rfl : i = pn:=by omega
       clear d0 d1
       go_wp2
       go_roundw
       case rel=>
        refine ⟨j + 1,T + i,by omega,by go_num,by go_num,by rw [szTo_succ HY.out,HPn.out];omega,HCj.out.trans HCi.out,fun q p hq hp=>?_⟩
        by_cases e : q = j
        ·subst e
         rw [HY.out] at hp
         cases hp
         intro s hm
         obtain ⟨i2,hi2,he2⟩:=List.mem_iff_getElem.1 hm
         exact HQ.out i2 s (by rw [← HPn.out];exact hi2) (by rw [List.getElem?_eq_getElem hi2,he2])
        ·exact HG.out q p (by omega) hp
       case measure=>simp [intOf];omega
    ·obtain rfl : j = hn + 2:=by omega
     go_wp2
     go_roundw
     case rel=>
      have hpl : (patsOf z.e).length = hn + 2:=by
       rw [HP.out,List.length_map]
       simp only [List.length_cons]
       rw [HZl.out]
      refine ⟨k + 1,by omega,by go_num,by rw [szE_succ HZ.out,hpl,hS0,hT],HCr.out.trans (HC5.out.trans HCj.out),fun q x hq hx=>?_⟩
      by_cases e : q = k
      ·subst e
       rw [HZ.out] at hx
       cases hx
       intro p hm
       obtain ⟨i2,hi2,he2⟩:=List.mem_iff_getElem.1 hm
       exact HG.out i2 p (by rw [← hpl];exact hi2) (by rw [List.getElem?_eq_getElem hi2,he2])
      ·exact HF.out q x (by omega) hx
     case measure=>simp [intOf];omega
  ·obtain rfl : k = n:=by omega
   have HSk:=HSz.out k
   obtain ⟨S0,hS0⟩ : ∃ S0,szE es k = S0:=⟨_,rfl⟩
   rw [hS0] at HSk ⊢
   by_cases h300 : S0 ≤ 300
   ·by_cases h40 : k ≤ 40
    ·go_wp2
     all_goals go_ret
     exact ⟨⟨_,rfl,fun _=>⟨by rw [HN.out];exact h40,small_of (by rw [HN.out,hS0];exact h300) (fun j x hj hx=>HF.out j x (by rw [← HN.out];exact hj) hx)⟩⟩,HCr.out⟩
    ·go_wp2
     all_goals go_ret
     exact ⟨⟨_,rfl,fun h=>by first | (cases h;done) | (revert h;simp;done) | (revert h;simp;omega)⟩,HCr.out⟩
   ·go_wp2
    all_goals go_ret
    exact ⟨⟨_,rfl,fun h=>by first | (cases h;done) | (revert h;simp;done) | (revert h;simp;omega)⟩,HCr.out⟩
end Go.Proofs.YtnlnclefedohkaaGreatDoor
set_option linter.unusedVariables false
set_option linter.unusedSimpArgs false
namespace Go.Proofs.YtnlnclefedohkaaGreatDoor
open Go Go.RowKit Sy

theorem results_cell_tmpsM {fn : Func} {p q r : Tmp} {ty : TypeId} (h : fn.results = #[.cell p ty,.tmp q,.tmp r]) (tmps : Array Value) (P : Program) (w : World) :
  (results fn tmps).run P w = ((asAddr (tmps.getD p undef)).run P w).andThen fun a w₁=>((loadVar ty a).run P w₁).andThen fun v w₂=>.ok (.tuple #[v,tmps.getD q undef,tmps.getD r undef]) w₂:=by
 simp only [results,h]
 simp [Sem.run_bind,Result.andThen]
set_option maxHeartbeats 8000000 in
theorem mreduce_far (b : Pat) (ps : List Pat) (A : Option Addr) (c : Nat) (PA : Option Addr) (n N pc gm : Nat) (re : Bool) (w : World) (hb : PatA w A c b) (hps : PatsR w PA ps) (hn : b.parts.length = n) (hre : b.rest = re) (hN : ps.length = N) (gb : patErr b = 0) (gp : ∀ p ∈ ps,patErr p = 0) (hgm : (redL b ps).length = gm) (h64 : 64 < gm) :
  Calls Tryz.prog 35 #[.agg #[.slice A n c,.bool re],.slice PA N pc] w fun e w'=>e = .returned (.tuple #[.agg #[.slice none 0 0,.bool false,.slice none 0 0],.bool false,.int .i64 72]) ∧ Calm w w':=by
 obtain ⟨w1,hw1⟩ : ∃ w1,w1 = (w.alloc (.cells #[.slice A n c,.bool re] 40)).alloc (.cells #[.slice none 0 0,.bool false,.slice none 0 0] 68):=⟨_,rfl⟩
 have hc1 : Calm w w1:=by rw [hw1];exact ((Calm.refl w).alloc _).alloc _
 have hz : ThreeB w1 (w.heap.size + 1) (.slice none 0 0) (.bool false) (.slice none 0 0):=by
  rw [hw1]
  have:=ThreeB.new (w.alloc (.cells #[.slice A n c,.bool re] 40)) (.slice none 0 0) (.bool false) (.slice none 0 0) 68
  simpa using this
 have hN2 : gm ≤ N:=by rw [← hgm,← hN];exact redL_len _ _
 have KR : Hid (∀ W,Calm w1 W → Calls Tryz.prog 68 #[.agg #[.slice A n c,.bool re],.slice PA N pc] W fun e w'=>(∃ A2 c2 HA2 hc2,e = .returned (.agg #[.slice A2 n c2,.bool re,.slice HA2 gm hc2])) ∧ Calm W w'):=fun W hW=>by
  have:=reduce_c b ps A c PA N pc W (hb.calm (hc1.trans hW)) (hps.calm (hc1.trans hW)) hN gb gp
  unfold RedEnd at this
  rw [hn,hre,hgm] at this
  exact this.mono fun e w' ⟨⟨A2,c2,HA2,hc2,h1,_,_⟩,h2⟩=>⟨⟨A2,c2,HA2,hc2,h1⟩,h2⟩
 have HW:=Lib.hid hw1
 have HC:=Lib.hid hc1
 have HZ:=Lib.hid hz
 have hgi : (64 : Int) < (gm : Int):=by omega
 clear hw1 hc1 hz hb hps hn hre hN gb gp hgm
 go_enter Tryz.func35,Tryz.ntmps35
 go_wp2_with fail
 rw [← HW.out]
 refine (KR.out w1 (Calm.refl _)).mono ?_
 rintro e w3 ⟨⟨A2,c2,HA2,hc2,rfl⟩,hc3⟩
 have h3:=HZ.out.calm hc3
 have z0:=h3.c0
 have z1:=h3.c1
 have z2:=h3.c2
 have f0:=h3.fz 0
 have f1:=h3.fz 1
 have f2:=h3.fz 2
 have hlt:=h3.lt
 go_wp2_with fail
 refine bodyPost_ret (v:=.tuple #[.agg #[.slice none 0 0,.bool false,.slice none 0 0],.bool false,.int .i64 72]) ?_ rfl ⟨rfl,by first | exact (calm3' (HC.out.trans hc3) (by omega) _ _ _).alloc _ | exact calm3' ((HC.out.trans hc3).alloc _) (by omega) _ _ _⟩
 rw [results_cell_tmpsM rfl]
 go_simp
end Go.Proofs.YtnlnclefedohkaaGreatDoor
set_option linter.unusedVariables false
set_option linter.unusedSimpArgs false
namespace Go.Proofs.YtnlnclefedohkaaGreatDoor
open Go Go.RowKit Sy

set_option maxHeartbeats 8000000 in
theorem mreduce_near (b : Pat) (ps : List Pat) (A : Option Addr) (c : Nat) (PA : Option Addr) (n N pc gm : Nat) (re vz : Bool) (w : World) (hb : PatA w A c b) (hps : PatsR w PA ps) (hn : b.parts.length = n) (hre : b.rest = re) (hN : ps.length = N) (gb : patErr b = 0) (gp : ∀ p ∈ ps,patErr p = 0) (hgm : (redL b ps).length = gm) (h64 : ¬ 64 < gm) (hvz : (leastLen b (redL b ps) == 0) = vz) :
  Calls Tryz.prog 35 #[.agg #[.slice A n c,.bool re],.slice PA N pc] w fun e w'=>(∃ A2 c2 HA2 hc2,e = .returned (.tuple #[.agg #[.slice A2 n c2,.bool re,.slice HA2 gm hc2],.bool (!vz),.int .i64 0]) ∧ NewS w' w.heap.size A2 c2 b.parts ∧ PatsN w' w.heap.size HA2 hc2 (redL b ps)) ∧ Calm w w':=by
 obtain ⟨w1,hw1⟩ : ∃ w1,w1 = (w.alloc (.cells #[.slice A n c,.bool re] 40)).alloc (.cells #[.slice none 0 0,.bool false,.slice none 0 0] 68):=⟨_,rfl⟩
 have hc1 : Calm w w1:=by rw [hw1];exact ((Calm.refl w).alloc _).alloc _
 obtain ⟨R,hR⟩ : ∃ R,w.heap.size + 1 = R:=⟨_,rfl⟩
 have hz : RgB w1 R (.slice none 0 0) (.bool false) (.slice none 0 0):=by
  rw [hw1,← hR]
  have:=RgB.new (w.alloc (.cells #[.slice A n c,.bool re] 40)) (.slice none 0 0) (.bool false) (.slice none 0 0)
  simpa using this
 have hRw : w.heap.size ≤ R:=by omega
 have hR1 : w1.heap.size = R + 1:=by rw [hw1,← hR];simp [go_sem]
 have KR : Hid (∀ W,Calm w1 W → Calls Tryz.prog 68 #[.agg #[.slice A n c,.bool re],.slice PA N pc] W fun e w'=>(∃ A2 c2 HA2 hc2,e = .returned (.agg #[.slice A2 n c2,.bool re,.slice HA2 gm hc2]) ∧ NewS w' W.heap.size A2 c2 b.parts ∧ PatsN w' W.heap.size HA2 hc2 (redL b ps)) ∧ Calm W w'):=fun W hW=>by
  have:=reduce_c b ps A c PA N pc W (hb.calm (hc1.trans hW)) (hps.calm (hc1.trans hW)) hN gb gp
  unfold RedEnd at this
  rw [hn,hre,hgm] at this
  exact this
 have KV : Hid (∀ W A2 c2 HA2 hc2,NewS W (R + 1) A2 c2 b.parts → PatsN W (R + 1) HA2 hc2 (redL b ps) → Calls Tryz.prog 69 #[.agg #[.slice A2 n c2,.bool re],.slice HA2 gm hc2] W fun e w'=>e = .returned (.bool vz) ∧ Calm W w'):=fun W A2 c2 HA2 hc2 h1 h2=>
  voidp_c b (redL b ps) vz n gm re A2 c2 HA2 hc2 W (h1.u.toR hb.r.len hb.r.each) (h2.reads (by omega)) hvz hn hgm hre
 have HW:=Lib.hid hw1
 have HC:=Lib.hid hc1
 have HZ:=Lib.hid hz
 have HR:=Lib.hid hR
 have HR1:=Lib.hid hR1
 obtain ⟨gs,hgs⟩ : ∃ gs,redL b ps = gs:=⟨_,rfl⟩
 rw [hgs] at KR KV ⊢
 obtain ⟨bp,hbp⟩ : ∃ bp,b.parts = bp:=⟨_,rfl⟩
 rw [hbp] at KR KV ⊢
 have hgi : ¬ (64 : Int) < (gm : Int):=by omega
 clear hw1 hc1 hz hb hps hn hre hN gb gp hgm hR hR1 hvz hgs hbp
 go_enter Tryz.func35,Tryz.ntmps35
 go_wp2_with fail
 rw [← HW.out,HR.out]
 refine (KR.out w1 (Calm.refl _)).mono ?_
 rintro e w3 ⟨⟨A2,c2,HA2,hc2,rfl,hS3,hP3⟩,hc3⟩
 obtain ⟨w4,hw4⟩ : ∃ w4,w4 = w3.alloc (.cells #[.slice A2 n c2,.bool re,.slice HA2 gm hc2] 68):=⟨_,rfl⟩
 have hc34 : Calm w3 w4:=by
  show Below _ _ _
  rw [hw4]
  exact (Calm.refl _).alloc _
 obtain ⟨G,hG⟩ : ∃ G,w3.heap.size = G:=⟨_,rfl⟩
 have hg4 : RgB w4 G (.slice A2 n c2) (.bool re) (.slice HA2 gm hc2):=by rw [hw4,← hG];exact RgB.new w3 _ _ _
 have hRG : R < G:=by have:=hc3.size;have:=HR1.out;omega
 have hS4 : Hid (NewS w4 (R + 1) A2 c2 bp):=(HR1.out ▸ hS3).calm hc34
 have hP4 : Hid (PatsN w4 (R + 1) HA2 hc2 gs):=(HR1.out ▸ hP3).calm hc34
 have HC4 : Hid (Calm w w4):=HC.out.trans (Calm.trans hc3 hc34)
 have HZ4 : Hid (RgB w4 R (.slice none 0 0) (.bool false) (.slice none 0 0)):=HZ.out.calm (Calm.trans hc3 hc34)
 have HG4:=Lib.hid hg4
 have HW4:=Lib.hid hw4
 have HGs:=Lib.hid hG
 have g0:=hg4.c0
 have g1:=hg4.c1
 have g2:=hg4.c2
 have z0:=HZ4.out.c0
 have z1:=HZ4.out.c1
 have z2:=HZ4.out.c2
 have f0:=HZ4.out.f 0
 have f1:=HZ4.out.f 1
 have f2:=HZ4.out.f 2
 have hne : ¬ G = R:=by omega
 have hne2 : ¬ R = G:=by omega
 clear hS3 hP3 hc3 hc34 hg4 hw4 hG
 go_wp2_with fail
 rw [← HW4.out,HGs.out]
 have HK : Hid (∀ W : World,Calm w4 W → W.cell? ⟨G,0,none⟩ = some (.slice A2 n c2) ∧ W.cell? ⟨G,1,none⟩ = some (.bool re) ∧ W.cell? ⟨G,2,none⟩ = some (.slice HA2 gm hc2)):=fun W hW=>⟨(HG4.out.calm hW).c0,(HG4.out.calm hW).c1,(HG4.out.calm hW).c2⟩
 have HSt : Hid (∀ W u0 u1 u2,Calm w4 W → (((W.setCell ⟨R,0,none⟩ u0).setCell ⟨R,1,none⟩ u1).setCell ⟨R,2,none⟩ u2).cell? ⟨G,0,none⟩ = some (.slice A2 n c2) ∧ (((W.setCell ⟨R,0,none⟩ u0).setCell ⟨R,1,none⟩ u1).setCell ⟨R,2,none⟩ u2).cell? ⟨G,1,none⟩ = some (.bool re) ∧ (((W.setCell ⟨R,0,none⟩ u0).setCell ⟨R,1,none⟩ u1).setCell ⟨R,2,none⟩ u2).cell? ⟨G,2,none⟩ = some (.slice HA2 gm hc2)):=fun W u0 u1 u2 hW=>by
  have h : RgB (((W.setCell ⟨R,0,none⟩ u0).setCell ⟨R,1,none⟩ u1).setCell ⟨R,2,none⟩ u2) G (.slice A2 n c2) (.bool re) (.slice HA2 gm hc2):=(HG4.out.calm hW).block (by simp [World.setCell,Array.getElem?_modify,hne,hne2])
  exact ⟨h.c0,h.c1,h.c2⟩
 have KV2 : Hid (∀ W,Calm w4 W → Calls Tryz.prog 69 #[.agg #[.slice A2 n c2,.bool re],.slice HA2 gm hc2] W fun e w'=>e = .returned (.bool vz) ∧ Calm w4 w'):=fun W hW=>(KV.out W _ _ _ _ (hS4.out.calm hW) (hP4.out.calm hW)).mono fun e w' ⟨h1,h2⟩=>⟨h1,hW.trans h2⟩
 have HEnd : Hid (∀ W u0 u1 u2,Calm w4 W → NewS (((W.setCell ⟨R,0,none⟩ u0).setCell ⟨R,1,none⟩ u1).setCell ⟨R,2,none⟩ u2) w.heap.size A2 c2 bp ∧ PatsN (((W.setCell ⟨R,0,none⟩ u0).setCell ⟨R,1,none⟩ u1).setCell ⟨R,2,none⟩ u2) w.heap.size HA2 hc2 gs ∧ Calm w (((W.setCell ⟨R,0,none⟩ u0).setCell ⟨R,1,none⟩ u1).setCell ⟨R,2,none⟩ u2)):=fun W u0 u1 u2 hW=>
  ⟨((hS4.out.calm hW).set3 (Nat.lt_succ_self R) _ _ _).mono (by omega),((hP4.out.calm hW).set3 (Nat.lt_succ_self R) _ _ _).mono (by omega),calm3' (HC4.out.trans hW) hRw _ _ _⟩
 go_region_held3 (fun W=>W.cell? ⟨G,0,none⟩ = some (.slice A2 n c2) ∧ W.cell? ⟨G,1,none⟩ = some (.bool re) ∧ W.cell? ⟨G,2,none⟩ = some (.slice HA2 gm hc2))
  (first
   |with_reducible exact HSt.out _ _ _ _ hc48
   |with_reducible exact HK.out _ hc48
   |with_reducible exact HK.out _ (Calm.refl _)
   |with_reducible exact HK.out _ (Below.drew (Calm.refl _))
   |go_keep)
  (first
   |(go_at_call 69;(first | refine (KV2.out _ (Below.drew (Calm.refl _))).mono ?_ | refine (KV2.out _ (Calm.refl _)).mono ?_);rintro e w8 ⟨rfl,hc48⟩;have hz8:=HZ4.out.calm hc48;have z0:=hz8.c0;have z1:=hz8.c1;have z2:=hz8.c2;have f0:=hz8.f 0;have f1:=hz8.f 1;have f2:=hz8.f 2))
 have HE:=Lib.hid (HEnd.out w8 (.slice A2 n c2) (.bool re) (.slice HA2 gm hc2) hc48)
 go_wp2_with fail
 refine bodyPost_ret (v:=.tuple #[.agg #[.slice A2 n c2,.bool re,.slice HA2 gm hc2],.bool (!vz),.int .i64 0]) ?_ rfl ⟨⟨A2,c2,HA2,hc2,rfl,HE.out.1,HE.out.2.1⟩,HE.out.2.2⟩
 rw [results_cell_tmpsM rfl]
 go_simp
end Go.Proofs.YtnlnclefedohkaaGreatDoor
set_option linter.unusedVariables false
set_option linter.unusedSimpArgs false
namespace Go.Proofs.YtnlnclefedohkaaGreatDoor
open Go Go.RowKit Sy

theorem mreduce_c (b : Pat) (ps : List Pat) (A : Option Addr) (c : Nat) (PA : Option Addr) (n N pc : Nat) (re : Bool) (w : World) (hb : PatA w A c b) (hps : PatsR w PA ps) (hn : b.parts.length = n) (hre : b.rest = re) (hN : ps.length = N) (gb : patErr b = 0) (gp : ∀ p ∈ ps,patErr p = 0) :
  Calls Tryz.prog 35 #[.agg #[.slice A n c,.bool re],.slice PA N pc] w fun e w'=>RdEnd b ps w.heap.size e w' ∧ Calm w w':=by
 unfold RdEnd
 by_cases h64 : 64 < (redL b ps).length
 ·refine (mreduce_far b ps A c PA n N pc _ re w hb hps hn hre hN gb gp rfl h64).mono ?_
  rintro e w' ⟨h1,h2⟩
  rw [if_pos h64]
  exact ⟨h1,h2⟩
 ·refine (mreduce_near b ps A c PA n N pc _ re _ w hb hps hn hre hN gb gp rfl h64 rfl).mono ?_
  rintro e w' ⟨⟨A2,c2,HA2,hc2,h1,h2,h3⟩,h4⟩
  rw [if_neg h64]
  subst hn hre
  exact ⟨⟨A2,c2,HA2,hc2,h1,h2,h3⟩,h4⟩
end Go.Proofs.YtnlnclefedohkaaGreatDoor
set_option linter.unusedVariables false
set_option linter.unusedSimpArgs false
namespace Go.Proofs.YtnlnclefedohkaaGreatDoor
open Go Go.RowKit Sy

theorem inv_put {x : Ent} {ks : List Pat} (h : rightHs x.rule x.hs = some ks) (h64 : ks.length ≤ 64) : putH ⟨false,x.right,x.left⟩ ks = some (invOf x):=by
 have h1:=redL_len x.right ks
 unfold putH invOf rightG
 rw [h]
 show (if 64 < (redL x.right ks).length then _ else _) = _
 rw [if_neg (by omega)]
 simp only [Option.map_some]
 split <;> rfl
set_option maxHeartbeats 8000000 in
theorem minv_c (es : List Ent) (n c : Nat) (A : Option Addr) (w : World) (h : EntsA w A es) (hcn : n ≤ c) (hcc : c ≤ 9223372036854775807) (hn : es.length = n) (hsm : ∀ x ∈ es,SmallE x) :
  Calls Tryz.prog 17 #[.slice A n c] w fun e w'=>EntOut (invE es).1 (invE es).2 w.heap.size e w' ∧ Calm w w':=by
 have hl : n ≤ 1048576:=by rw [← hn];exact h.1
 obtain ⟨er,her⟩ : ∃ er,(mapE es).2 = er:=⟨_,rfl⟩
 obtain ⟨w1,hw1⟩ : ∃ w1,w1 = w.alloc (.cells #[.slice A n c] 22):=⟨_,rfl⟩
 have hc1 : Calm w w1:=by rw [hw1];exact (Calm.refl w).alloc _
 have KC:=check1_c es n c w.heap.size A er w1 (h.calm hc1) hcn hcc hsm hn her (by rw [hw1];simp) (by rw [hw1];simp)
 have HV0 : er ≠ 0 → Hid (invE es = ([],er)):=fun h0=>by
  show invE es = _
  unfold invE
  rw [her,if_pos h0]
 have HV1 : er = 0 → Hid (invE es = (es.filterMap invOf,0) ∧ Mapping es):=fun h0=>by
  refine ⟨?_,(mapE_zero (her.trans h0)).1⟩
  show invE es = _
  unfold invE
  rw [her,if_neg (by simpa using h0)]
 have HE:=Lib.hid h
 have HN:=Lib.hid hn
 have HS:=Lib.hid hsm
 have HW:=Lib.hid hw1
 have HC:=Lib.hid hc1
 have HKC:=Lib.hid KC
 clear h hn hsm hw1 hc1 KC her
 go_enter Tryz.func17,Tryz.ntmps17
 by_cases h0 : er = 0
 ·subst h0
  have HV:=HV1 rfl
  clear HV0 HV1
  go_wp2_with fail
  rw [← HW.out]
  refine HKC.out.mono ?_
  rintro e w2 ⟨rfl,hc2⟩
  obtain ⟨G,hG⟩ : ∃ G,w2.heap.size = G:=⟨_,rfl⟩
  obtain ⟨w3,hw3⟩ : ∃ w3,w3 = w2.alloc (.cells #[.slice none 0 0,.bool false] 47):=⟨_,rfl⟩
  have HCol : Hid (ColA w w3 G []):=by
   show ColA w w3 G []
   rw [hw3,← hG]
   exact colA_new (HC.out.trans hc2)
  have HW3:=Lib.hid hw3
  have HG:=Lib.hid hG
  clear hc2 hw3 hG
  go_wp2_with fail
  rw [← HW3.out,HG.out]
  go_loopw [19] (fun u wr=>∃ k : Nat,k ≤ n ∧ u = .int .i64 k ∧ Hid (ColA w wr G ((es.take k).filterMap invOf))) (fun u _=>n - (intOf u).toNat)
  case atStart=>exact ⟨0,Nat.zero_le _,rfl,HCol.out⟩
  case round=>
   obtain ⟨k,hk,rfl,HCr⟩:=hrel
   obtain ⟨wq,rfl⟩ : ∃ wq,wq = wr:=⟨_,rfl⟩
   by_cases hlt : k < n
   ·obtain ⟨b,o,z,rfl,hb,hz,c0,c1,c2,c3,c4,hua⟩:=(HE.out.calm HCr.out.calm).get (k:=k) (by rw [HN.out];exact hlt)
    have hmem:=List.mem_of_getElem? hz
    have hgd:=HV.out.2.good z.e hmem
    have hss:=HS.out _ hmem
    have hu:=hua.few hss hgd.2
    obtain ⟨g,hgr⟩:=HV.out.2.right z.e hmem
    obtain ⟨ks,hks,_⟩:=Option.map_eq_some_iff.1 hgr
    have hkl : ks.length ≤ 64:=by
     have h1:=(rightHs_good hks).2
     have h2 : z.e.reg.hs.length ≤ 64:=(gErr_zero hgd.2).2.2
     have e : z.e.reg.hs = z.e.hs:=rfl
     rw [e] at h2
     omega
    have hkg:=(rightHs_good hks).1
    have hpt:=inv_put hks hkl
    have htf : (es.take (k + 1)).filterMap invOf = (es.take k).filterMap invOf ++ (invOf z.e).toList:=take_filterMap hz
    have htw : Sy.Twin z.e.left z.e.right:=ruleErr_twin.1 hgd.1
    obtain ⟨nl,hnl⟩ : ∃ nl,z.e.left.parts.length = nl:=⟨_,rfl⟩
    obtain ⟨nr,hnr⟩ : ∃ nr,z.e.right.parts.length = nr:=⟨_,rfl⟩
    obtain ⟨lr,hlr⟩ : ∃ lr,z.e.left.rest = lr:=⟨_,rfl⟩
    obtain ⟨rr,hrr⟩ : ∃ rr,z.e.right.rest = rr:=⟨_,rfl⟩
    obtain ⟨hn,hhn⟩ : ∃ hn,z.e.hs.length = hn:=⟨_,rfl⟩
    obtain ⟨m,hm⟩ : ∃ m,ks.length = m:=⟨_,rfl⟩
    rw [hnl] at c0
    rw [hlr] at c1
    rw [hnr] at c2
    rw [hrr] at c3
    rw [hhn] at c4
    have KR : Hid (∀ W,Calm wq W → Calls Tryz.prog 47 #[entV z.LA z.RA z.HA nl z.lc nr z.rc hn z.hc lr rr] W fun e w'=>(∃ KA kc,e = .returned (.tuple #[.agg #[.slice z.RA nr z.rc,.bool rr,.slice KA m kc],.int .i64 0]) ∧ PatsN w' W.heap.size KA kc ks) ∧ Calm W w'):=fun W hW=>by
     have:=right_c z nl nr hn lr rr z.HA W (hu.calm hW) hss hgd.1 hgd.2 hnl hnr hhn hlr hrr rfl
     unfold RightEnd at this
     rw [hks] at this
     simp only [hnr,hrr,hm] at this
     exact this
    have KP : Hid (∀ W KA kc B,Calm wq W → PatsN W B KA kc ks → Calls Tryz.prog 25 #[.pointer (some ⟨G,0,none⟩),.agg #[.bool false,.slice z.RA nr z.rc,.bool rr,.slice z.LA nl z.lc,.bool lr],.slice KA m kc] W fun e w'=>e = .returned (.int .i64 0) ∧ ColA w w' G ((es.take k).filterMap invOf ++ (invOf z.e).toList)):=fun W KA kc B hW hP=>by
     have huW:=hu.calm hW
     have:=put_k w wq W G ((es.take k).filterMap invOf) ⟨false,z.e.right,z.e.left⟩ ks ⟨z.RA,z.rc,z.LA,z.lc⟩ false nr nl m kc rr lr KA HCr.out hW huW.r huW.l hnr hnl hrr hlr (fun W2 hW2=>mreduce_c z.e.right ks z.RA z.rc KA nr m kc rr W2 (huW.r.calm hW2) ((hP.calm hW2).reads (by omega)) hnr hrr hm htw.rp hkg)
     exact this.mono fun e w' hp=>hp.1.some hpt
    have HTf:=Lib.hid htf
    obtain ⟨B,hB⟩ : ∃ B,wq.heap.size = B:=⟨_,rfl⟩
    obtain ⟨wb,hwb⟩ : ∃ wb,wb = wq.alloc (.cells #[.slice z.LA nl z.lc,.bool lr,.slice z.RA nr z.rc,.bool rr,.slice z.HA hn z.hc] 43):=⟨_,rfl⟩
    have hf : FiveB wb B (.slice z.LA nl z.lc) (.bool lr) (.slice z.RA nr z.rc) (.bool rr) (.slice z.HA hn z.hc):=by
     rw [hwb,← hB]
     exact FiveB.new wq _ _ _ _ _ _
    have hcb : Calm wq wb:=by
     show Below _ _ _
     rw [hwb]
     exact (Calm.refl _).alloc _
    have HF:=Lib.hid hf
    have HCb:=Lib.hid hcb
    have HWb:=Lib.hid hwb
    have HBB:=Lib.hid hB
    clear hz hu hua hnl hnr hlr hrr hhn hf hcb hwb hB hmem hgd hss hgr hks hkl hkg hpt htf htw hm
    go_wp2_with fail
    rw [← HWb.out]
    refine (KR.out wb HCb.out).mono ?_
    rintro e w3 ⟨⟨KA,kc,rfl,hP⟩,hc3⟩
    rw [HBB.out]
    clear c0 c1 c2 c3 c4
    obtain ⟨w4,hw4⟩ : ∃ w4,w4 = w3.alloc (.cells #[.slice z.RA nr z.rc,.bool rr,.slice KA m kc] 68):=⟨_,rfl⟩
    have hc34 : Calm w3 w4:=by
     show Below _ _ _
     rw [hw4]
     exact (Calm.refl _).alloc _
    have hf3:=HF.out.calm hc3
    have c0:=hf3.c0
    have c1:=hf3.c1
    have c2:=hf3.c2
    have c3:=hf3.c3
    have hlt3:=hf3.lt
    have HP4:=Lib.hid (hP.calm hc34)
    have HC4 : Hid (Calm wq w4):=HCb.out.trans (Calm.trans hc3 hc34)
    have HW4:=Lib.hid hw4
    clear hP hc3 hc34 hw4 hf3
    go_wp2_with fail
    rw [← HW4.out]
    refine (KP.out w4 KA kc _ HC4.out HP4.out).mono ?_
    rintro e w5 ⟨rfl,hcol⟩
    have HCol5:=Lib.hid hcol
    clear hcol c0 c1 c2 c3 hlt3
    go_wp2_with fail
    go_roundw
    case rel=>exact ⟨k + 1,by omega,by go_num,by rw [HTf.out];exact HCol5.out⟩
    case measure=>simp [intOf];omega
   ·obtain rfl : k = n:=by omega
    have HRs:=Lib.hid (resultE_a w wq G _ HCr.out)
    have HFin : Hid ((es.take k).filterMap invOf = (invE es).1 ∧ (invE es).2 = 0 ∧ ¬ 32 < ((es.take k).filterMap invOf).length):=by
     have e1 : es.take k = es:=by rw [List.take_of_length_le];rw [HN.out];omega
     rw [HV.out.1,e1]
     refine ⟨rfl,rfl,?_⟩
     have:=List.length_filterMap_le invOf es
     have:=HV.out.2.few
     omega
    go_wp2_with fail
    refine HRs.out.mono ?_
    rintro e w6 ⟨hR,hc6⟩
    have hO:=hR.out
    rw [if_neg HFin.out.2.2,if_neg HFin.out.2.2,HFin.out.1] at hO
    obtain ⟨A6,c6,rfl,r1,r2,r3⟩:=hO
    have HD : Hid (EntOut (invE es).1 (invE es).2 w.heap.size (.returned (.tuple #[.slice A6 (invE es).1.length c6,.int .i64 0])) w6):=by
     rw [HFin.out.2.1]
     exact ⟨A6,c6,rfl,r1,r2,r3⟩
    clear r1 r2 r3 hR
    generalize (invE es).1.length = L6 at HD ⊢
    go_wp2_with fail
    go_ret2
    exact ⟨HD.out,hc6⟩
 ·have HV:=HV0 h0
  have hb : (er != 0) = true:=by simpa using h0
  clear HV0 HV1 h0
  go_wp2_with fail
  rw [← HW.out]
  refine HKC.out.mono ?_
  rintro e w2 ⟨rfl,hc2⟩
  go_wp2_with fail
  go_ret2
  exact ⟨by rw [HV.out];exact entOut_err _ _ _,HC.out.trans hc2⟩
end Go.Proofs.YtnlnclefedohkaaGreatDoor
set_option linter.unusedVariables false
set_option linter.unusedSimpArgs false
namespace Go.Proofs.YtnlnclefedohkaaGreatDoor
open Go Go.RowKit Sy

def exM : List Ent:=[⟨⟨[[100]],true⟩,⟨[[99]],true⟩,[⟨[[100],[42,46,116,109,112]],false⟩]⟩]
theorem exM_inv : invE exM = ([⟨⟨[[99]],true⟩,⟨[[100]],true⟩,[⟨[[99],[42,46,116,109,112]],false⟩]⟩],0):=by decide +kernel
theorem exM_ok : (mapE exM).2 = 0:=by decide +kernel
theorem exM_bwd : bwS exM [47,47,99,47,97] = some [47,47,100,47,97]:=by decide +kernel
theorem exM_small : ∀ x ∈ exM,SmallE x:=fun x hx=>by
 rw [exM,List.mem_singleton] at hx
 subst hx
 exact ⟨by decide,by decide,by decide,by decide,by decide⟩
theorem newm_at {v w' : World} {cs : Array Value} {t : TypeId} {n k : Nat} {x : Value} (hc : Calm (v.alloc (.cells cs t)) w') (hs : v.heap.size = n) (h : cs[k]? = some x) : w'.cell? ⟨n,k,none⟩ = some x:=by
 subst hs
 refine hc.at_ ?_ (by simp)
 rw [cell_of_row _ v.heap.size k _ _ _ (heap_alloc_new v _)]
 exact h
def exMW (w : World) : World:=
 ((((((w.alloc (Obj.cells #[Value.string { data:=#[100] }] 9)).alloc (Obj.cells #[Value.string { data:=#[99] }] 9)).alloc (Obj.cells #[Value.slice (some { block:=w.heap.size,off:=0 }) 1 1,Value.bool true] 40)).alloc
  (Obj.cells #[Value.slice (some { block:=w.heap.size + 1,off:=0 }) 1 1,Value.bool true] 40)).alloc (Obj.cells #[Value.string { data:=#[100] },Value.string { data:=#[42,46,116,109,112] }] 9)).alloc
  (Obj.cells #[Value.slice (some { block:=w.heap.size + 1 + 1 + 1 + 1,off:=0 }) 2 2,Value.bool false] 40)).alloc
  (Obj.cells #[Value.slice (some { block:=w.heap.size,off:=0 }) 1 1,Value.bool true,Value.slice (some { block:=w.heap.size + 1,off:=0 }) 1 1,Value.bool true,Value.slice (some { block:=w.heap.size + 1 + 1 + 1 + 1 + 1,off:=0 }) 1 1] 43)
theorem exMW_calm (w : World) : Calm w (exMW w):=(((((((Calm.refl w).alloc _).alloc _).alloc _).alloc _).alloc _).alloc _).alloc _
theorem exMW_size (w : World) : (exMW w).heap.size = w.heap.size + 7:=by simp [exMW]
theorem exMW_ents (w : World) : EntsA (exMW w) (some ⟨w.heap.size + 1 + 1 + 1 + 1 + 1 + 1,0,none⟩) exM:=by
 refine ⟨by decide,[⟨some ⟨w.heap.size,0,none⟩,1,some ⟨w.heap.size + 1,0,none⟩,1,some ⟨w.heap.size + 1 + 1 + 1 + 1 + 1,0,none⟩,1,⟨⟨[[100]],true⟩,⟨[[99]],true⟩,[⟨[[100],[42,46,116,109,112]],false⟩]⟩⟩],rfl,fun _=>⟨_,0,rfl,by rw [exMW_size];omega,fun k x hk i u hu=>?_⟩,fun z hz=>?_⟩
 ·match k,hk with
  |0,hk=>
   obtain rfl:=Option.some.inj hk
   have key : ∀ i u,(#[Value.slice (some { block:=w.heap.size,off:=0 }) 1 1,Value.bool true,Value.slice (some { block:=w.heap.size + 1,off:=0 }) 1 1,Value.bool true,Value.slice (some { block:=w.heap.size + 1 + 1 + 1 + 1 + 1,off:=0 }) 1 1] : Array Value)[i]? = some u → (exMW w).cell? ⟨w.heap.size + 1 + 1 + 1 + 1 + 1 + 1,i,none⟩ = some u:=fun i u h=>
    newm_at (v:=(((((w.alloc _).alloc _).alloc _).alloc _).alloc _).alloc _) (Calm.refl _) (by simp) h
   rw [show 0 + 0 * 5 + i = i by omega]
   exact key i u (by simpa [encE] using hu)
 ·rw [List.mem_singleton] at hz
  subst hz
  refine ⟨⟨(by show 1 ≤ 1048576;decide),(by show ∀ l ∈ ([[100]] : List Str),l.length ≤ 1048576;decide),fun _=>⟨_,0,rfl,by rw [exMW_size];omega,fun k l hl=>?_⟩⟩,⟨(by show 1 ≤ 1048576;decide),(by show ∀ l ∈ ([[99]] : List Str),l.length ≤ 1048576;decide),fun _=>⟨_,0,rfl,by rw [exMW_size];omega,fun k l hl=>?_⟩⟩,⟨(by show 1 ≤ 1048576;decide),fun _=>⟨_,0,rfl,by rw [exMW_size];omega,fun k p hp=>?_⟩⟩,Nat.le_refl 1,Nat.le_refl 1,Nat.le_refl 1,(by show 1 ≤ 9223372036854775807;omega),(by show 1 ≤ 9223372036854775807;omega),(by show 1 ≤ 9223372036854775807;omega)⟩
  ·rw [Nat.zero_add]
   refine newm_at (v:=w) (((((((Calm.refl _).alloc _).alloc _).alloc _).alloc _).alloc _).alloc _) rfl ?_
   match k,hl with
   |0,hl=>cases hl;rfl
  ·rw [Nat.zero_add]
   refine newm_at (v:=w.alloc _) ((((((Calm.refl _).alloc _).alloc _).alloc _).alloc _).alloc _) (by simp) ?_
   match k,hl with
   |0,hl=>cases hl;rfl
  ·match k,hp with
   |0,hp=>
    obtain rfl:=Option.some.inj hp
    refine ⟨some ⟨w.heap.size + 1 + 1 + 1 + 1,0,none⟩,2,?_,?_,Nat.le_refl 2,(by show 2 ≤ 9223372036854775807;omega),⟨by decide,by decide,fun _=>⟨_,0,rfl,by rw [exMW_size];omega,fun k l hl=>?_⟩⟩⟩
    ·exact newm_at (v:=((((w.alloc _).alloc _).alloc _).alloc _).alloc _) ((Calm.refl _).alloc _) (by simp) rfl
    ·exact newm_at (v:=((((w.alloc _).alloc _).alloc _).alloc _).alloc _) ((Calm.refl _).alloc _) (by simp) rfl
    ·rw [Nat.zero_add]
     refine newm_at (v:=(((w.alloc _).alloc _).alloc _).alloc _) (((Calm.refl _).alloc _).alloc _) (by simp) ?_
     match k,hl with
     |0,hl=>cases hl;rfl
     |1,hl=>cases hl;rfl
structure ExI (w : World) (b o : Nat) (b2 o2 c1 c2 b3 o3 : Nat) : Prop where
 h : w.cell? ⟨b,o + 4,none⟩ = some (.slice (some ⟨b2,o2,none⟩) 1 c1)
 p : w.cell? ⟨b2,o2,none⟩ = some (.slice (some ⟨b3,o3,none⟩) 2 c2)
 s : w.cell? ⟨b3,o3,none⟩ = some (.string ⟨#[99]⟩)
 lt : b < w.heap.size ∧ b2 < w.heap.size ∧ b3 < w.heap.size
theorem ExI.calm {w w' : World} {b o b2 o2 c1 c2 b3 o3 : Nat} (h : ExI w b o b2 o2 c1 c2 b3 o3) (hc : Calm w w') : ExI w' b o b2 o2 c1 c2 b3 o3:=
 ⟨hc.at_ h.h h.lt.1,hc.at_ h.p h.lt.2.1,hc.at_ h.s h.lt.2.2,Nat.lt_of_lt_of_le h.lt.1 hc.size,Nat.lt_of_lt_of_le h.lt.2.1 hc.size,Nat.lt_of_lt_of_le h.lt.2.2 hc.size⟩
theorem exI_of {w' : World} {B : Nat} {e : Ending} (h : EntOut (invE exM).1 (invE exM).2 B e w') : ∃ b o c b2 o2 c1 c2 b3 o3,e = .returned (.tuple #[.slice (some ⟨b,o,none⟩) 1 c,.int .i64 0]) ∧ 1 ≤ c ∧ ExI w' b o b2 o2 c1 c2 b3 o3:=by
 rw [exM_inv] at h
 obtain ⟨A,c,rfl,h1,h2,zs,h3,h4,h5⟩:=h
 have hE : EntsR w' A [⟨⟨[[99]],true⟩,⟨[[100]],true⟩,[⟨[[99],[42,46,116,109,112]],false⟩]⟩]:=⟨zs,h3,h4,fun z hz=>(h5 z hz).u⟩
 obtain ⟨b,o,z,rfl,hb,hz,_,_,_,_,c4,hu⟩:=hE.get (k:=0) (by decide)
 have hze : z.e = ⟨⟨[[99]],true⟩,⟨[[100]],true⟩,[⟨[[99],[42,46,116,109,112]],false⟩]⟩:=(Option.some.inj hz).symm
 have hh:=hu.h
 rw [hze] at hh c4
 obtain ⟨b2,o2,p,Ak,ck,hA2,hb2,hp,d0,_,_,_,hs⟩:=hh.get (k:=0) (by decide)
 have hpe : p = ⟨[[99],[42,46,116,109,112]],false⟩:=(Option.some.inj hp).symm
 subst hpe
 obtain ⟨b3,o3,l,hA3,hb3,hl,_,e0⟩:=hs.get (k:=0) (by decide)
 have hle : l = [99]:=(Option.some.inj hl).symm
 subst hle
 refine ⟨b,o,c,b2,o2,z.hc,ck,b3,o3,rfl,h1,⟨?_,?_,?_,hb,hb2,hb3⟩⟩
 ·rw [hA2] at c4
  simpa using c4
 ·rw [hA3] at d0
  simpa using d0
 ·have : w'.cell? ⟨b3,o3,none⟩ = some (.string (bs [99])):=by simpa using e0
  exact this
set_option maxRecDepth 100000 in
set_option maxHeartbeats 4000000 in
theorem awakeM_c (w : World) (hM : MaxL w) : Calls Tryz.prog 7 #[] w fun e w'=>e = .returned (.bool true) ∧ Calm w w':=by
 have KI : Hid (Calls Tryz.prog 17 #[.slice (some ⟨w.heap.size + 1 + 1 + 1 + 1 + 1 + 1,0,none⟩) 1 1] (exMW w) fun e w'=>(∃ b o c b2 o2 c1 c2 b3 o3,e = .returned (.tuple #[.slice (some ⟨b,o,none⟩) 1 c,.int .i64 0]) ∧ 1 ≤ c ∧ ExI w' b o b2 o2 c1 c2 b3 o3) ∧ Calm (exMW w) w'):=
  (minv_c exM 1 1 _ (exMW w) (exMW_ents w) (Nat.le_refl _) (by decide) rfl exM_small).mono fun e w' ⟨h1,h2⟩=>⟨exI_of h1,h2⟩
 have KB : Hid (∀ W,Calm (exMW w) W → Calls Tryz.prog 18 #[.slice (some ⟨w.heap.size + 1 + 1 + 1 + 1 + 1 + 1,0,none⟩) 1 1,.string ⟨#[47,47,99,47,97]⟩] W fun e w'=>e = .returned (.tuple #[.string ⟨#[47,47,100,47,97]⟩,.bool true]) ∧ Calm W w'):=fun W hW=>by
  have:=mbwd_c exM [47,47,99,47,97] 1 1 _ W ((exMW_ents w).calm hW) (Nat.le_refl _) (by decide) rfl exM_small (by decide) (hM.calm ((exMW_calm w).trans hW))
  unfold mbV at this
  rw [if_pos exM_ok] at this
  unfold bwV at this
  rw [exM_bwd] at this
  exact this
 have HC : Hid (Calm w (exMW w)):=exMW_calm w
 clear hM
 go_enter Tryz.func7,Tryz.ntmps7
 go_wp2_with fail
 refine KI.out.mono ?_
 rintro e w3 ⟨⟨b,o,c,b2,o2,c1,c2,b3,o3,rfl,hc,hx⟩,hc3⟩
 have HX:=Lib.hid hx
 have HC3:=Lib.hid hc3
 clear hx hc3
 go_wp2_with fail
 refine (KB.out w3 HC3.out).mono ?_
 rintro e w4 ⟨rfl,hc4⟩
 have hx4:=HX.out.calm hc4
 have x1:=hx4.h
 have x2:=hx4.p
 have x3:=hx4.s
 clear hx4
 go_wp2_with fail
 go_ret
 exact ⟨rfl,HC.out.trans (HC3.out.trans hc4)⟩
end Go.Proofs.YtnlnclefedohkaaGreatDoor
set_option linter.unusedVariables false
set_option linter.unusedSimpArgs false
namespace Go.Proofs.YtnlnclefedohkaaGreatDoor
open Go Go.RowKit Sy

set_option maxHeartbeats 4000000 in
theorem sameE_c (es : List Ent) (n c c' : Nat) (A A' : Option Addr) (w : World) (h : EntsR w A es) (h' : EntsR w A' es) (hn : es.length = n) (hl : n ≤ 9223372036854775807) :
  Calls Tryz.prog 10 #[.slice A n c,.slice A' n c'] w fun e w'=>e = .returned (.bool true) ∧ Calm w w':=by
 have HE:=Lib.hid h
 have HE':=Lib.hid h'
 have HN:=Lib.hid hn
 clear h h' hn
 go_enter Tryz.func10,Tryz.ntmps10
 go_wp2_with fail
 go_loopw [13] (fun u wr=>∃ k : Nat,k ≤ n ∧ u = .int .i64 k ∧ Hid (Calm w wr)) (fun u _=>n - (intOf u).toNat)
 case atStart=>exact ⟨0,Nat.zero_le _,rfl,Calm.refl _⟩
 case round=>
  obtain ⟨k,hk,rfl,HCr⟩:=hrel
  by_cases hlt : k < n
  ·obtain ⟨b,o,z,rfl,hb,hz,c0,c1,c2,c3,c4,hu⟩:=(HE.out.calm HCr.out).get (k:=k) (by rw [HN.out];exact hlt)
   obtain ⟨b',o',z',rfl,hb',hz',d0,d1,d2,d3,d4,hu'⟩:=(HE'.out.calm HCr.out).get (k:=k) (by rw [HN.out];exact hlt)
   have he : z'.e = z.e:=by
    rw [hz] at hz'
    exact (Option.some.inj hz').symm
   obtain ⟨e0,he0⟩ : ∃ e0,z.e = e0:=⟨_,rfl⟩
   rw [he0] at he c0 c1 c2 c3 c4
   rw [he] at d0 d1 d2 d3 d4
   have ul:=hu.l
   have ur:=hu.r
   have uh:=hu.h
   have ul':=hu'.l
   have ur':=hu'.r
   have uh':=hu'.h
   rw [he0] at ul ur uh
   rw [he] at ul' ur' uh'
   obtain ⟨nl,hnl⟩ : ∃ nl,e0.left.parts.length = nl:=⟨_,rfl⟩
   obtain ⟨nr,hnr⟩ : ∃ nr,e0.right.parts.length = nr:=⟨_,rfl⟩
   obtain ⟨lr,hlr⟩ : ∃ lr,e0.left.rest = lr:=⟨_,rfl⟩
   obtain ⟨rr,hrr⟩ : ∃ rr,e0.right.rest = rr:=⟨_,rfl⟩
   obtain ⟨hn,hhn⟩ : ∃ hn,e0.hs.length = hn:=⟨_,rfl⟩
   rw [hnl] at c0 d0
   rw [hlr] at c1 d1
   rw [hnr] at c2 d2
   rw [hrr] at c3 d3
   rw [hhn] at c4 d4
   have K1:=Lib.hid (fun q : CalmTo wr=>same_v e0.right nr z.rc z'.rc rr z.RA z'.RA q.w (ur.calm q.h).r.toU (ur'.calm q.h).r.toU hnr hrr)
   have K2:=Lib.hid (fun q : CalmTo wr=>rsameg_c e0.left e0.hs nl hn lr z.LA z.lc z.HA z.hc z'.LA z'.lc z'.HA z'.hc q.w (ul.calm q.h).r.toU (ul'.calm q.h).r.toU (uh.calm q.h).toV (uh'.calm q.h).toV hnl hhn hlr)
   have f0:=fun q : CalmTo wr=>q.cell c0 hb
   have f1:=fun q : CalmTo wr=>q.cell c1 hb
   have f2:=fun q : CalmTo wr=>q.cell c2 hb
   have f3:=fun q : CalmTo wr=>q.cell c3 hb
   have f4:=fun q : CalmTo wr=>q.cell c4 hb
   have g0:=fun q : CalmTo wr=>q.cell d0 hb'
   have g1:=fun q : CalmTo wr=>q.cell d1 hb'
   have g2:=fun q : CalmTo wr=>q.cell d2 hb'
   have g3:=fun q : CalmTo wr=>q.cell d3 hb'
   have g4:=fun q : CalmTo wr=>q.cell d4 hb'
   clear hz hz' he he0 hu hu' ul ur uh ul' ur' uh' hnl hnr hlr hrr hhn c0 c1 c2 c3 c4 d0 d1 d2 d3 d4
   go_wp2_with fail
   refine wp_region_calm (by kernel_rfl) (by kernel_rfl) ?_
   repeat (go_big_quiet_step (first
    |(go_at_call 32;with_reducible exact calmOf (K1.out _))
    |(go_at_call 33;with_reducible exact calmOf (K2.out _))))
   refine wpQuiet_nil ?_
   intro w7 hc7
   have HC7 : Hid (Calm w w7):=HCr.out.trans hc7
   clear hc7 f0 f1 f2 f3 f4 g0 g1 g2 g3 g4
   go_wp2_with fail
   go_roundw
   case rel=>exact ⟨k + 1,by omega,by go_num,HC7⟩
   case measure=>simp [intOf];omega
  ·obtain rfl : k = n:=by omega
   go_wp2_with fail
   go_ret
   exact ⟨rfl,HCr.out⟩
end Go.Proofs.YtnlnclefedohkaaGreatDoor
set_option linter.unusedVariables false
set_option linter.unusedSimpArgs false
namespace Go.Proofs.YtnlnclefedohkaaGreatDoor
open Go Go.RowKit Sy

theorem redK : RedK:=fun b ps A1 c1 PA nl N pc lr W hA hP h1 h2 h3 hb hg=>mreduce_c b ps A1 c1 PA nl N pc lr W hA hP h1 h2 h3 hb hg
theorem mcom_c (es fs : List Ent) (n c n2 c2 : Nat) (A A2 : Option Addr) (w : World) (h : EntsA w A es) (hcn : n ≤ c) (hcc : c ≤ 9223372036854775807) (hn : es.length = n) (hs : ∀ x ∈ es,SmallE x) (h2 : EntsA w A2 fs) (hcn2 : n2 ≤ c2) (hcc2 : c2 ≤ 9223372036854775807) (hn2 : fs.length = n2) (hs2 : ∀ x ∈ fs,SmallE x) :
  Calls Tryz.prog 8 #[.slice A n c,.slice A2 n2 c2] w fun e w'=>EntOut (comE es fs).1 (comE es fs).2 w.heap.size e w' ∧ Calm w w':=mcom_k es fs n c n2 c2 A A2 w h hcn hcc hn hs h2 hcn2 hcc2 hn2 hs2 redK
end Go.Proofs.YtnlnclefedohkaaGreatDoor
set_option linter.unusedVariables false
set_option linter.unusedSimpArgs false
namespace Go.Proofs.YtnlnclefedohkaaGreatDoor
open Go Go.RowKit Sy

end Go.Proofs.YtnlnclefedohkaaGreatDoor
set_option linter.unusedVariables false
set_option linter.unusedSimpArgs false
namespace Go.Proofs.YtnlnclefedohkaaGreatDoor
open Go Go.RowKit Sy

end Go.Proofs.YtnlnclefedohkaaGreatDoor
set_option linter.unusedVariables false
set_option linter.unusedSimpArgs false
namespace Go.Proofs.YtnlnclefedohkaaGreatDoor
open Go Go.RowKit Sy
theorem smallK4 (es : List Ent) (n c : Nat) (A : Option Addr) (w : World) (h : EntsA w A es) (hcn : n ≤ c) (hcc : c ≤ 9223372036854775807) (hn : es.length = n) :
  Calls Tryz.prog 6 #[.slice A n c] w fun e w'=>(∃ b,e = .returned (.bool b) ∧ (b = true → ∀ x ∈ es,SizeE 60 x)) ∧ Calm w w':=
 (smallM_c es n c A w h hcn hcc hn).mono fun e w' ⟨⟨b,h1,h2⟩,h3⟩=>⟨⟨b,h1,fun hb=>(h2 hb).2⟩,h3⟩
theorem comE_len (es fs : List Ent) : (comE es fs).1.length ≤ 32:=by
 unfold comE
 split
 ·exact Nat.zero_le _
 ·split
  ·exact Nat.zero_le _
  ·split
   ·exact Nat.zero_le _
   ·split
    ·exact Nat.zero_le _
    ·rename_i h
     exact Nat.le_of_not_lt h
end Go.Proofs.YtnlnclefedohkaaGreatDoor
set_option linter.unusedVariables false
set_option linter.unusedSimpArgs false
namespace Go.Proofs.YtnlnclefedohkaaGreatDoor
open Go Go.RowKit Sy

set_option maxHeartbeats 8000000 in
theorem mappingComposes_c (es fs : List Ent) (n c n2 c2 : Nat) (A A2 : Option Addr) (w : World) (h : EntsA w A es) (hcn : n ≤ c) (hcc : c ≤ 9223372036854775807) (hn : es.length = n) (h2 : EntsA w A2 fs) (hcn2 : n2 ≤ c2) (hcc2 : c2 ≤ 9223372036854775807) (hn2 : fs.length = n2) (hM : MaxL w) :
  Calls Tryz.prog 3 #[.slice A n c,.slice A2 n2 c2] w fun e w'=>e = .returned (.bool true) ∧ Calm w w':=by
 have KS : Hid (∀ W,Calm w W → Calls Tryz.prog 6 #[.slice A n c] W fun e w'=>(∃ b,e = .returned (.bool b) ∧ (b = true → ∀ x ∈ es,SizeE 60 x)) ∧ Calm W w'):=fun W hW=>smallK4 es n c A W (h.calm hW) hcn hcc hn
 have KS2 : Hid (∀ W,Calm w W → Calls Tryz.prog 6 #[.slice A2 n2 c2] W fun e w'=>(∃ b,e = .returned (.bool b) ∧ (b = true → ∀ x ∈ fs,SizeE 60 x)) ∧ Calm W w'):=fun W hW=>smallK4 fs n2 c2 A2 W (h2.calm hW) hcn2 hcc2 hn2
 have KA : Hid (∀ W,Calm w W → Calls Tryz.prog 7 #[] W fun e w'=>e = .returned (.bool true) ∧ Calm W w'):=fun W hW=>awakeM_c W (hM.calm hW)
 obtain ⟨re,hre⟩ : ∃ re,(comE es fs).1 = re:=⟨_,rfl⟩
 obtain ⟨rx,hrx⟩ : ∃ rx,(comE es fs).2 = rx:=⟨_,rfl⟩
 obtain ⟨rl,hrl⟩ : ∃ rl,re.length = rl:=⟨_,rfl⟩
 have hrll : rl ≤ 32:=by
  have:=comE_len es fs
  rw [hre,hrl] at this
  exact this
 have KI : Hid ((∀ x ∈ es,SizeE 60 x) → (∀ x ∈ fs,SizeE 60 x) → ∀ W,Calm w W → Calls Tryz.prog 8 #[.slice A n c,.slice A2 n2 c2] W fun e w'=>(∃ A3 c3,e = .returned (.tuple #[.slice A3 rl c3,.int .i64 rx]) ∧ EntsR w' A3 re) ∧ Calm W w'):=fun hs hs2 W hW=>
  (mcom_c es fs n c n2 c2 A A2 W (h.calm hW) hcn hcc hn (fun x hx=>(hs x hx).mono (by decide)) (h2.calm hW) hcn2 hcc2 hn2 (fun x hx=>(hs2 x hx).mono (by decide))).mono fun e w' ⟨h1,h2⟩=>by
   obtain ⟨A3,c3,h3,_,_,h4⟩:=h1.r
   rw [hre,hrx,hrl] at h3
   rw [hre] at h4
   exact ⟨⟨A3,c3,h3,h4⟩,h2⟩
 have KJ : Hid ((∀ x ∈ es,SizeE 60 x) → (∀ x ∈ fs,SizeE 60 x) → ∀ W,Calm w W → Calls Tryz.prog 9 #[.slice A n c,.slice A2 n2 c2] W fun e w'=>(∃ A3 c3,e = .returned (.tuple #[.slice A3 rl c3,.int .i64 rx]) ∧ EntsR w' A3 re) ∧ Calm W w'):=fun hs hs2 W hW=>
  (rcom_c es fs n c n2 c2 A A2 W (h.calm hW) hcn hcc hn (fun x hx=>(hs x hx).mono (by decide)) (h2.calm hW) hcn2 hcc2 hn2 (fun x hx=>(hs2 x hx).mono (by decide))).mono fun e w' ⟨h1,h2⟩=>by
   obtain ⟨A3,c3,h3,_,_,h4⟩:=h1
   rw [hre,hrx,hrl] at h3
   rw [hre] at h4
   exact ⟨⟨A3,c3,h3,h4⟩,h2⟩
 have KE : Hid (∀ W A2 c2 A3 c3,EntsR W A2 re → EntsR W A3 re → Calls Tryz.prog 10 #[.slice A2 rl c2,.slice A3 rl c3] W fun e w'=>e = .returned (.bool true) ∧ Calm W w'):=fun W A2 c2 A3 c3 h1 h2=>
  sameE_c re rl c2 c3 A2 A3 W h1 h2 hrl (by omega)
 clear h hn h2 hn2 hM hre hrx hrl
 go_enter Tryz.func3,Tryz.ntmps3
 go_wp2_with fail
 refine (KS.out w (Calm.refl _)).mono ?_
 rintro e wa0 ⟨⟨b0,rfl,hb0⟩,hc0⟩
 have HB0:=Lib.hid hb0
 have HCa0 : Hid (Calm w wa0):=hc0
 clear hb0 hc0
 cases b0 with
 |false=>
  go_wp2_with fail
  refine (KA.out wa0 HCa0.out).mono ?_
  rintro e wz ⟨rfl,hcz⟩
  go_wp2_with fail
  go_ret
  exact ⟨rfl,HCa0.out.trans hcz⟩
 |true=>
  have HS:=Lib.hid (HB0.out rfl)
  go_wp2_with fail
  refine (KS2.out wa0 HCa0.out).mono ?_
  rintro e wa1 ⟨⟨b1,rfl,hb1⟩,hc1⟩
  have HB1:=Lib.hid hb1
  have HCa1 : Hid (Calm w wa1):=HCa0.out.trans hc1
  clear hb1 hc1
  cases b1 with
  |false=>
   go_wp2_with fail
   refine (KA.out wa1 HCa1.out).mono ?_
   rintro e wz ⟨rfl,hcz⟩
   go_wp2_with fail
   go_ret
   exact ⟨rfl,HCa1.out.trans hcz⟩
  |true=>
   have HS2:=Lib.hid (HB1.out rfl)
   go_wp2_with fail
   refine (KI.out HS.out HS2.out wa1 HCa1.out).mono ?_
   rintro e w4 ⟨⟨A4,k4,rfl,hE4⟩,hc4⟩
   have HC4 : Hid (Calm w w4):=HCa1.out.trans hc4
   have HE4:=Lib.hid hE4
   clear hc4 hE4
   go_wp2_with fail
   refine (KJ.out HS.out HS2.out w4 HC4.out).mono ?_
   rintro e w5 ⟨⟨A5,k5,rfl,hE5⟩,hc5⟩
   have HC5 : Hid (Calm w w5):=HC4.out.trans hc5
   have HE5:=Lib.hid hE5
   have HE45:=Lib.hid (HE4.out.calm hc5)
   clear hc5 hE5
   go_wp2_with fail
   refine (KE.out w5 A4 k4 A5 k5 HE45.out HE5.out).mono ?_
   rintro e w6 ⟨rfl,hc6⟩
   have HC6 : Hid (Calm w w6):=HC5.out.trans hc6
   clear hc6
   go_wp2_with fail
   refine (KA.out w6 HC6.out).mono ?_
   rintro e wz ⟨rfl,hcz⟩
   go_wp2_with fail
   go_ret
   exact ⟨rfl,HC6.out.trans hcz⟩
end Go.Proofs.YtnlnclefedohkaaGreatDoor
