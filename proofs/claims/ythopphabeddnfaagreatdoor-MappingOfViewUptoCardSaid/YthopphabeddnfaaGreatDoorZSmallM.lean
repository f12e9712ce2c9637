/- Walk: small of the laws of mappings. -/
import Derived.Test.YthopphabeddnfaaGreatDoorZMapMem
import Derived.Test.YthopphabeddnfaaGreatDoorZEntM
import Derived.Test.YthopphabeddnfaaGreatDoorZMapA
set_option linter.unusedVariables false
set_option linter.unusedSimpArgs false
namespace Go.Proofs.YthopphabeddnfaaGreatDoor
open Go Go.RowKit Sy

def patsOf (x : Ent) : List Pat:=x.left :: x.right :: x.hs
def szTo (ps : List Pat) (k : Nat) : Nat:=((ps.take k).map fun p=>p.parts.length).sum
def szE (es : List Ent) (k : Nat) : Nat:=((es.take k).map fun x=>szTo (patsOf x) (patsOf x).length).sum
theorem szTo_succ {ps : List Pat} {k : Nat} {p : Pat} (h : ps[k]? = some p) : szTo ps (k + 1) = szTo ps k + p.parts.length:=by
 obtain ⟨hlt,rfl⟩:=List.getElem?_eq_some_iff.1 h
 rw [szTo,List.take_succ_eq_append_getElem hlt,List.map_append,List.sum_append,szTo]
 simp
theorem szE_succ {es : List Ent} {k : Nat} {x : Ent} (h : es[k]? = some x) : szE es (k + 1) = szE es k + szTo (patsOf x) (patsOf x).length:=by
 obtain ⟨hlt,rfl⟩:=List.getElem?_eq_some_iff.1 h
 rw [szE,List.take_succ_eq_append_getElem hlt,List.map_append,List.sum_append,szE]
 simp
theorem sum_le {α : Type} {f : α → Nat} {b : Nat} : ∀ {l : List α},(∀ x ∈ l,f x ≤ b) → (l.map f).sum ≤ l.length * b
 |[],_=>by simp
 |a :: l,h=>by
  have ih:=sum_le (l:=l) fun x hx=>h x (List.mem_cons_of_mem _ hx)
  have:=h a List.mem_cons_self
  rw [List.map_cons,List.sum_cons,List.length_cons,Nat.add_mul,Nat.one_mul]
  omega
theorem le_sum {α : Type} {f : α → Nat} : ∀ {l : List α} {a : α},a ∈ l → f a ≤ (l.map f).sum
 |b :: l,a,h=>by
  rw [List.map_cons,List.sum_cons]
  rcases List.mem_cons.1 h with rfl | h
  ·omega
  ·have:=le_sum (f:=f) h
   omega
theorem szTo_le {ps : List Pat} {B : Nat} (h : ∀ p ∈ ps,p.parts.length ≤ B) (k : Nat) : szTo ps k ≤ ps.length * B:=by
 have h1 : szTo ps k ≤ (ps.take k).length * B:=sum_le (f:=fun p : Pat=>p.parts.length) fun p hp=>h p (List.mem_of_mem_take hp)
 have h2 : (ps.take k).length ≤ ps.length:=by rw [List.length_take];omega
 have h3:=Nat.mul_le_mul_right B h2
 omega
theorem szE_le {es : List Ent} {B : Nat} (h : ∀ x ∈ es,szTo (patsOf x) (patsOf x).length ≤ B) (k : Nat) : szE es k ≤ es.length * B:=by
 have h1 : szE es k ≤ (es.take k).length * B:=sum_le (f:=fun x : Ent=>szTo (patsOf x) (patsOf x).length) fun x hx=>h x (List.mem_of_mem_take hx)
 have h2 : (es.take k).length ≤ es.length:=by rw [List.length_take];omega
 have h3:=Nat.mul_le_mul_right B h2
 omega
def SmallMEnd (es : List Ent) (e : Ending) : Prop:=∃ b,e = .returned (.bool b) ∧ (b = true → es.length ≤ 40 ∧ ∀ x ∈ es,SizeE 60 x)
theorem small_of {es : List Ent} (hn : szE es es.length ≤ 300) (hs : ∀ j x,j < es.length → es[j]? = some x → ∀ p ∈ patsOf x,∀ s ∈ p.parts,s.length ≤ 60) : ∀ x ∈ es,SizeE 60 x:=fun x hx=>by
 have h1 : szTo (patsOf x) (patsOf x).length ≤ szE es es.length:=by
  rw [szE,List.take_length]
  exact le_sum (f:=fun x : Ent=>szTo (patsOf x) (patsOf x).length) hx
 have h2 : ∀ p ∈ patsOf x,p.parts.length ≤ 300:=fun p hp=>by
  have : p.parts.length ≤ szTo (patsOf x) (patsOf x).length:=by
   rw [szTo,List.take_length]
   exact le_sum (f:=fun p : Pat=>p.parts.length) hp
  omega
 obtain ⟨j,hj,he⟩:=List.mem_iff_getElem.1 hx
 have h3:=hs j x hj (by rw [List.getElem?_eq_getElem hj,he])
 exact ⟨h2 _ List.mem_cons_self,h3 _ List.mem_cons_self,h2 _ (List.mem_cons_of_mem _ List.mem_cons_self),h3 _ (List.mem_cons_of_mem _ List.mem_cons_self),fun p hp=>⟨h2 _ (List.mem_cons_of_mem _ (List.mem_cons_of_mem _ hp)),h3 _ (List.mem_cons_of_mem _ (List.mem_cons_of_mem _ hp))⟩⟩
theorem own_lit2 {w : World} (x y : NewP) {n m : Nat} {r q : Bool} (h1 : x.p.parts.length = n) (h2 : y.p.parts.length = m) (h3 : x.p.rest = r) (h4 : y.p.rest = q) : OwnX encP 2 37 w (w.alloc (.cells #[.slice x.A n x.c,.bool r,.slice y.A m y.c,.bool q] 37)) (.slice (some ⟨w.heap.size,0,none⟩) 2 2) [x,y]:=by
 subst h1 h2 h3 h4
 exact ⟨(Calm.refl w).alloc _,by
  have:=World.ownsRow_lit (base:=w.heap.size) (e:=37) (size:=2) w #[.slice x.A x.p.parts.length x.c,.bool x.p.rest,.slice y.A y.p.parts.length y.c,.bool y.p.rest] 2 (Nat.le_refl _) (by decide) rfl
  simpa [encs,encP] using this⟩
theorem len2 (a b : NewP) {zs : List NewP} {n : Nat} (h : zs.length = n) : ([a,b] ++ zs).length = n + 2:=by
 subst h
 rfl
theorem OwnX.shapeP {w0 w : World} {v : Value} {l : List NewP} (h : OwnX encP 2 37 w0 w v l) : ∃ A c,v = .slice A l.length c ∧ l.length ≤ c ∧ c ≤ 9223372036854775807 ∧ ReadX encP 2 w A l:=by
 rcases h.row encP_len with ⟨rfl,rfl⟩ | ⟨g,c,rfl,h1,h2,_,hr⟩
 ·exact ⟨none,0,rfl,Nat.le_refl _,by omega,fun h=>absurd rfl h⟩
 ·exact ⟨_,c,rfl,h1,h2,fun _=>⟨g,0,rfl,hr.lt,fun k x hk i u hu=>hr.cell k x hk i u hu⟩⟩
theorem ReadX.getP {w : World} {A : Option Addr} {l : List NewP} (h : ReadX encP 2 w A l) {k : Nat} (hk : k < l.length) : ∃ (b o : Nat) (y : NewP),A = some ⟨b,o,none⟩ ∧ b < w.heap.size ∧ l[k]? = some y ∧ w.cell? ⟨b,o + k * 2,none⟩ = some (.slice y.A y.p.parts.length y.c) ∧ w.cell? ⟨b,o + k * 2 + 1,none⟩ = some (.bool y.p.rest):=by
 obtain ⟨b,o,hA,hb,hc⟩:=h (fun e=>by rw [e] at hk;simp at hk)
 have hz:=List.getElem?_eq_getElem hk
 exact ⟨b,o,l[k],hA,hb,hz,hc k _ hz 0 _ rfl,hc k _ hz 1 _ rfl⟩
set_option maxHeartbeats 8000000 in
theorem smallM_c (es : List Ent) (n c : Nat) (A : Option Addr) (w : World) (h : EntsA w A es) (hcn : n ≤ c) (hcc : c ≤ 9223372036854775807) (hn : es.length = n) (hall : ∀ x ∈ es,(patsOf x).length ≤ 1048578 ∧ ∀ p ∈ patsOf x,p.parts.length ≤ 1048576) :
  Calls Tryz.prog 6 #[.slice A n c] w fun e w'=>SmallMEnd es e ∧ Calm w w':=by
 have hl : n ≤ 1048576:=by rw [← hn];exact h.1
 have hB : ∀ x ∈ es,∀ j,szTo (patsOf x) j ≤ 1099513724928:=fun x hx j=>by
  have h2:=hall x hx
  have h3:=szTo_le h2.2 j
  omega
 have HSz : Hid (∀ k,szE es k ≤ 1152923703630102528):=fun k=>by
  have h1:=szE_le (fun x hx=>hB x hx _) k
  have h2:=h.1
  omega
 have HSt:=Lib.hid hB
 have HE:=Lib.hid h
 have HN:=Lib.hid hn
 have HAll:=Lib.hid hall
 have HAll:=Lib.hid hall
 clear h hn hall hB
 go_enter Tryz.func6,Tryz.ntmps6
 go_wp2_with fail
 go_loopw [3,12] (fun v u wr=>∃ k : Nat,k ≤ n ∧ u = .int .i64 k ∧ v = .int .i64 (szE es k : Nat) ∧ Hid (Calm w wr) ∧ Hid (∀ j x,j < k → es[j]? = some x → ∀ p ∈ patsOf x,∀ s ∈ p.parts,s.length ≤ 60)) (fun _ u _=>n - (intOf u).toNat)
 case atStart=>exact ⟨0,Nat.zero_le _,rfl,by simp [szE],Calm.refl _,fun j x hj=>absurd hj (Nat.not_lt_zero _)⟩
 case round=>
  obtain ⟨k,hk,rfl,rfl,HCr,HF⟩:=hrel
  obtain ⟨wq,rfl⟩ : ∃ wq,wq = wr:=⟨_,rfl⟩
  by_cases hlt : k < n
  ·obtain ⟨b,o,z,rfl,hb,hz,c0,c1,c2,c3,c4,hu⟩:=(HE.out.calm HCr.out).get (k:=k) (by rw [HN.out];exact hlt)
   obtain ⟨nl,hnl⟩ : ∃ nl,z.e.left.parts.length = nl:=⟨_,rfl⟩
   obtain ⟨nr,hnr⟩ : ∃ nr,z.e.right.parts.length = nr:=⟨_,rfl⟩
   obtain ⟨lr,hlr⟩ : ∃ lr,z.e.left.rest = lr:=⟨_,rfl⟩
   obtain ⟨rr,hrr⟩ : ∃ rr,z.e.right.rest = rr:=⟨_,rfl⟩
   obtain ⟨hn,hhn⟩ : ∃ hn,z.e.hs.length = hn:=⟨_,rfl⟩
   rw [hnl] at c0
   rw [hlr] at c1
   rw [hnr] at c2
   rw [hrr] at c3
   rw [hhn] at c4
   obtain ⟨zs,hzs,hX,hzu⟩:=hu.h.places
   have hzl : zs.length = hn:=by rw [← hhn,← hzs,List.length_map]
   have hhl : hn ≤ 1048576:=by have:=(HAll.out z.e (List.mem_of_getElem? hz)).1;simp only [patsOf,List.length_cons] at this;omega
   have HX : Hid (∀ W,Calm wq W → ReadX encP 2 W z.HA zs):=fun W hW=>hX.calm hW
   have HP : Hid (patsOf z.e = ((⟨z.LA,z.lc,z.e.left⟩ : NewP) :: (⟨z.RA,z.rc,z.e.right⟩ : NewP) :: zs).map (·.p)):=by
    show patsOf z.e = _
    rw [List.map_cons,List.map_cons,hzs]
    rfl
   have HU : Hid (∀ y ∈ ((⟨z.LA,z.lc,z.e.left⟩ : NewP) :: (⟨z.RA,z.rc,z.e.right⟩ : NewP) :: zs),y.p.parts.length ≤ y.c ∧ y.c ≤ 9223372036854775807 ∧ StrsU wq y.A y.p.parts):=fun y hy=>by
    rcases List.mem_cons.1 hy with rfl | hy
    ·exact ⟨hu.lroom,hu.lcap,hu.l⟩
    ·rcases List.mem_cons.1 hy with rfl | hy
     ·exact ⟨hu.rroom,hu.rcap,hu.r⟩
     ·exact hzu y hy
   have HZ:=Lib.hid hz
   have HLit : Hid (OwnX encP 2 37 (wq.alloc (.cells #[.slice z.LA nl z.lc,.bool lr,.slice z.RA nr z.rc,.bool rr,.slice z.HA hn z.hc] 40)) ((wq.alloc (.cells #[.slice z.LA nl z.lc,.bool lr,.slice z.RA nr z.rc,.bool rr,.slice z.HA hn z.hc] 40)).alloc (.cells #[.slice z.LA nl z.lc,.bool lr,.slice z.RA nr z.rc,.bool rr] 37)) (.slice (some ⟨wq.heap.size + 1,0,none⟩) 2 2) [⟨z.LA,z.lc,z.e.left⟩,⟨z.RA,z.rc,z.e.right⟩]):=by
    have:=own_lit2 (w:=wq.alloc (.cells #[.slice z.LA nl z.lc,.bool lr,.slice z.RA nr z.rc,.bool rr,.slice z.HA hn z.hc] 40)) ⟨z.LA,z.lc,z.e.left⟩ ⟨z.RA,z.rc,z.e.right⟩ hnl hnr hlr hrr
    rw [World.size_alloc] at this
    exact this
   have HSk:=HSz.out k
   have HZl:=Lib.hid hzl
   have HTs : Hid (∀ j,szTo (patsOf z.e) j ≤ 1099513724928):=HSt.out z.e (List.mem_of_getElem? hz)
   have HPl : Hid (∀ y ∈ ((⟨z.LA,z.lc,z.e.left⟩ : NewP) :: (⟨z.RA,z.rc,z.e.right⟩ : NewP) :: zs),y.p.parts.length ≤ 1048576):=fun y hy=>(HAll.out z.e (List.mem_of_getElem? HZ.out)).2 y.p (by rw [HP.out];exact List.mem_map.2 ⟨y,hy,rfl⟩)
   clear hz hu hzs hX hzu hnl hnr hlr hrr hhn hzl
   go_wp2_with (at_builtin;go_loud (refine wpList_append_xs (enc:=encP) (K:=2) (T:=37) Tryz.underlying38 info_patE rfl (by decide) (by decide) encP_len encP_one rfl (.tmp 20) (.tmp 22) rfl _ _ [⟨z.LA,z.lc,z.e.left⟩,⟨z.RA,z.rc,z.e.right⟩] zs rfl HLit.out _ hn z.hc rfl HZl.out (HX.out _ (((Calm.refl _).alloc _).alloc _)) (by show 2 + hn ≤ 32000000;omega) ?_;intro v5 w5 hown5 hg5;obtain ⟨A5,c5,rfl,h51,h52,hX5⟩:=hown5.shapeP;have hc5 : Calm wq w5:=Calm.trans ((Calm.refl _).alloc _) hown5.calm;have hl5 : ([⟨z.LA,z.lc,z.e.left⟩,⟨z.RA,z.rc,z.e.right⟩] ++ zs : List NewP).length = hn + 2:=len2 _ _ HZl.out;rw [hl5] at h51 ⊢;clear hl5 hown5 hg5))
   have HX5:=Lib.hid hX5
   have HC5:=Lib.hid hc5
   clear hX5 hc5 c0 c1 c2 c3 c4
   obtain ⟨S0,hS0⟩ : ∃ S0,szE es k = S0:=⟨_,rfl⟩
   rw [hS0] at HSk ⊢
   go_loopw [3,25] (fun v u wp=>∃ j T : Nat,j ≤ hn + 2 ∧ u = .int .i64 j ∧ v = .int .i64 T ∧ T = S0 + szTo (patsOf z.e) j ∧ Hid (Calm w5 wp) ∧ Hid (∀ i p,i < j → (patsOf z.e)[i]? = some p → ∀ s ∈ p.parts,s.length ≤ 60)) (fun _ u _=>hn + 2 - (intOf u).toNat)
   case atStart=>exact ⟨0,S0,Nat.zero_le _,rfl,rfl,by simp [szTo],Calm.refl _,fun j x hj=>absurd hj (Nat.not_lt_zero _)⟩
   case round=>
    obtain ⟨j,T,hj,rfl,rfl,hT,HCj,HG⟩:=hrel
    obtain ⟨wp,rfl⟩ : ∃ wp,wp = wr:=⟨_,rfl⟩
    by_cases hlt2 : j < hn + 2
    ·obtain ⟨b5,o5,y,rfl,hb5,hy,d0,d1⟩:=(HX5.out.calm HCj.out).getP (k:=j) (by rw [List.length_append,HZl.out];simp only [List.length_cons,List.length_nil] <;> omega)
     have hyU:=HU.out y (List.mem_of_getElem? hy)
     have HYU : Hid (StrsU wp y.A y.p.parts):=hyU.2.2.calm (HC5.out.trans HCj.out)
     have hyc:=hyU.1
     have hycc:=hyU.2.1
     have hyl:=hyU.2.2.len
     have HY : Hid ((patsOf z.e)[j]? = some y.p):=by
      show _ = _
      rw [HP.out,List.getElem?_map]
      show Option.map _ (([⟨z.LA,z.lc,z.e.left⟩,⟨z.RA,z.rc,z.e.right⟩] ++ zs : List NewP)[j]?) = _
      rw [hy]
      rfl
     obtain ⟨pn,hpn⟩ : ∃ pn,y.p.parts.length = pn:=⟨_,rfl⟩
     rw [hpn] at d0 hyc hyl
     have HPn:=Lib.hid hpn
     have hTb:=HTs.out j
     clear hy hyU hpn
     go_wp2_with fail
     go_loopw [37] (fun u wr=>∃ i : Nat,i ≤ pn ∧ u = .int .i64 i ∧ Hid (Calm wp wr) ∧ Hid (∀ q s,q < i → y.p.parts[q]? = some s → s.length ≤ 60)) (fun u _=>pn - (intOf u).toNat)
     case atStart=>exact ⟨0,Nat.zero_le _,rfl,(Calm.refl _).alloc _,fun q s hq=>absurd hq (Nat.not_lt_zero _)⟩
     case round=>
      obtain ⟨i,hi,rfl,HCi,HQ⟩:=hrel
      by_cases hlt3 : i < pn
      ·obtain ⟨b2,o2,l,hAy,hb2,hl2,hll,hcl⟩:=(HYU.out.calm HCi.out).get (k:=i) (by rw [HPn.out];exact hlt3)
       have HL:=Lib.hid hl2
       clear hl2 d0 d1
       rw [hAy]
       by_cases h60 : l.length ≤ 60
       ·go_wp2
        go_roundw
        case rel=>
         refine ⟨i + 1,by omega,by go_num,HCi.out,fun q s hq hs=>?_⟩
         by_cases e : q = i
         ·subst e
          rw [HL.out] at hs
          cases hs
          exact h60
         ·exact HQ.out q s (by omega) hs
        case measure=>simp [intOf];omega
       ·go_wp2
        go_ret
        exact ⟨⟨false,rfl,fun h=>by cases h⟩,HCr.out.trans (HC5.out.trans (HCj.out.trans HCi.out))⟩
      ·obtain rfl : i = pn:=by omega
       clear d0 d1
       go_wp2
       go_roundw
       case rel=>
        refine ⟨j + 1,T + i,by omega,by go_num,by go_num,by rw [szTo_succ HY.out,HPn.out];omega,HCj.out.trans HCi.out,fun q p hq hp=>?_⟩
        by_cases e : q = j
        ·subst e
         rw [HY.out] at hp
         cases hp
         intro s hm
         obtain ⟨i2,hi2,he2⟩:=List.mem_iff_getElem.1 hm
         exact HQ.out i2 s (by rw [← HPn.out];exact hi2) (by rw [List.getElem?_eq_getElem hi2,he2])
        ·exact HG.out q p (by omega) hp
       case measure=>simp [intOf];omega
    ·obtain rfl : j = hn + 2:=by omega
     go_wp2
     go_roundw
     case rel=>
      have hpl : (patsOf z.e).length = hn + 2:=by
       rw [HP.out,List.length_map]
       simp only [List.length_cons]
       rw [HZl.out]
      refine ⟨k + 1,by omega,by go_num,by rw [szE_succ HZ.out,hpl,hS0,hT],HCr.out.trans (HC5.out.trans HCj.out),fun q x hq hx=>?_⟩
      by_cases e : q = k
      ·subst e
       rw [HZ.out] at hx
       cases hx
       intro p hm
       obtain ⟨i2,hi2,he2⟩:=List.mem_iff_getElem.1 hm
       exact HG.out i2 p (by rw [← hpl];exact hi2) (by rw [List.getElem?_eq_getElem hi2,he2])
      ·exact HF.out q x (by omega) hx
     case measure=>simp [intOf];omega
  ·obtain rfl : k = n:=by omega
   have HSk:=HSz.out k
   obtain ⟨S0,hS0⟩ : ∃ S0,szE es k = S0:=⟨_,rfl⟩
   rw [hS0] at HSk ⊢
   by_cases h300 : S0 ≤ 300
   ·by_cases h40 : k ≤ 40
    ·go_wp2
     all_goals go_ret
     exact ⟨⟨_,rfl,fun _=>⟨by rw [HN.out];exact h40,small_of (by rw [HN.out,hS0];exact h300) (fun j x hj hx=>HF.out j x (by rw [← HN.out];exact hj) hx)⟩⟩,HCr.out⟩
    ·go_wp2
     all_goals go_ret
     exact ⟨⟨_,rfl,fun h=>by first | (cases h;done) | (revert h;simp;done) | (revert h;simp;omega)⟩,HCr.out⟩
   ·go_wp2
    all_goals go_ret
    exact ⟨⟨_,rfl,fun h=>by first | (cases h;done) | (revert h;simp;done) | (revert h;simp;omega)⟩,HCr.out⟩
end Go.Proofs.YthopphabeddnfaaGreatDoor
