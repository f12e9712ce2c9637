/- Walks: slices.ContainsFunc over patterns; the least length of a region's paths. -/
import Derived.Test.YthopphabeddnfaaGreatDoorZWalkD
import Derived.Test.YthopphabeddnfaaGreatDoorZMeetP
import Derived.Test.YthopphabeddnfaaGreatDoorZWalkG
import Derived.Test.YthopphabeddnfaaGreatDoorZStr
set_option linter.unusedVariables false
set_option linter.unusedSimpArgs false
namespace Go.Proofs.YthopphabeddnfaaGreatDoor
open Go Go.RowKit Sy

theorem pcheck_v (p : Pat) (v : Int) (A : Option Addr) (c : Nat) (w : World) (hv : patErr p = v) (hr : StrsR w A p.parts) (hnc : p.parts.length ≤ c) (hc47 : c ≤ 9223372036854775807) : Calls Tryz.prog 60 #[.agg #[.slice A p.parts.length c,.bool p.rest]] w fun e w'=>e = .returned (.int .i64 v) ∧ Calm w w':=hv ▸ pcheck_c p A c w hr hnc hc47
theorem good_holes {hs : List Pat} {k : Nat} {p : Pat} (hk : hs[k]? = some p) (hp : patErr p = 0) (h : ∀ j h,j < k → hs[j]? = some h → patErr h = 0) : ∀ j h,j < k + 1 → hs[j]? = some h → patErr h = 0:=fun j q hj hq=>by
 by_cases e : j = k
 ·subst e
  rw [hk] at hq
  cases hq
  exact hp
 ·exact h j q (by omega) hq

end Go.Proofs.YthopphabeddnfaaGreatDoor
set_option linter.unusedVariables false
set_option linter.unusedSimpArgs false
namespace Go.Proofs.YthopphabeddnfaaGreatDoor
open Go Go.RowKit Sy

set_option maxHeartbeats 400000 in
theorem partAt_c (p : Pat) (i : Nat) (A : Option Addr) (c : Nat) (w : World) (hi : i ≤ 4200000) (hr : StrsR w A p.parts) : Calls Tryz.prog 97 #[.agg #[.slice A p.parts.length c,.bool p.rest],.int .i64 i] w fun e w'=>e = .returned (.string (bs (pAt p i))) ∧ Calm w w':=by
 have hlen:=hr.len
 obtain ⟨n,hn⟩ : ∃ n,p.parts.length = n:=⟨_,rfl⟩
 have Hn:=Lib.hid hn
 rw [hn] at hlen
 rw [hn]
 by_cases hlt : i < n
 ·obtain ⟨b,o,l,rfl,hb,hl,hll,hcell⟩:=(hr.calm ((Calm.refl w).alloc (.cells #[.slice A n c,.bool p.rest] 37))).get (k:=i) (by rw [hn];exact hlt)
  have hv : pAt p i = l:=by simp [pAt,List.getD_eq_getElem?_getD,hl]
  rw [hv]
  clear hv hl hr hn
  go_enter Tryz.func97,Tryz.ntmps97
  go_wp2
  go_ret
  exact ⟨rfl,(Calm.refl w).alloc _⟩
 ·have hv : pAt p i = [42]:=pAt_out (by omega)
  rw [hv]
  clear hv hr hn
  go_enter Tryz.func97,Tryz.ntmps97
  go_wp2
  go_ret
  exact ⟨rfl,(Calm.refl w).alloc _⟩

end Go.Proofs.YthopphabeddnfaaGreatDoor
set_option linter.unusedVariables false
set_option linter.unusedSimpArgs false
namespace Go.Proofs.YthopphabeddnfaaGreatDoor
open Go Go.RowKit Sy

theorem cover_no {h b : Pat} {i n j : Nat} (h1 : i ≤ j) (h2 : j < n) (h3 : j < h.parts.length) (hf : inside (pAt b j) (pAt h j) = false) : covers h b i n = false:=by
 rcases hc : covers h b i n with _ | _
 ·rfl
 ·rw [covers_true.1 hc j h1 h2 h3] at hf
  cases hf

set_option maxHeartbeats 400000 in
theorem reaches_c (p : Pat) (n : Nat) (A : Option Addr) (c : Nat) (w : World) (hlen : p.parts.length ≤ 4194304) : Calls Tryz.prog 71 #[.agg #[.slice A p.parts.length c,.bool p.rest],.int .i64 n] w fun e w'=>e = .returned (.bool (reaches p n)) ∧ Calm w w':=by
 obtain ⟨m,hm⟩ : ∃ m,p.parts.length = m:=⟨_,rfl⟩
 rw [hm] at hlen ⊢
 cases hr : p.rest with
 |true=>
  have hv : reaches p n = decide (m < n):=by simp [reaches,hr,hm]
  rw [hv]
  clear hv hr hm
  by_cases hlt : m < n
  ·have h1 : ((n : Int) == (m : Int)) = false:=by simp;omega
   go_enter Tryz.func71,Tryz.ntmps71
   go_wp2
   go_ret
   exact ⟨ret_bool (by simp [hlt]),(Calm.refl w).alloc _⟩
  ·go_enter Tryz.func71,Tryz.ntmps71
   by_cases he : n = m
   ·have h1 : ((n : Int) == (m : Int)) = true:=by simp;omega
    clear he
    go_wp2
    go_ret
    exact ⟨ret_bool (by simp [hlt]),(Calm.refl w).alloc _⟩
   ·have h1 : ((n : Int) == (m : Int)) = false:=by simp;omega
    clear he
    go_wp2
    go_ret
    exact ⟨ret_bool (by simp [hlt]),(Calm.refl w).alloc _⟩
 |false=>
  have hv : reaches p n = (n == m):=by simp [reaches,hr,hm]
  rw [hv]
  clear hv hr hm
  go_enter Tryz.func71,Tryz.ntmps71
  by_cases he : n = m
  ·have h1 : ((n : Int) == (m : Int)) = true:=by simp;omega
   have h2:=Lib.hid he
   clear he
   go_wp2
   go_ret
   exact ⟨ret_bool (by simp [h2.out]),(Calm.refl w).alloc _⟩
  ·have h1 : ((n : Int) == (m : Int)) = false:=by simp;omega
   have h2:=Lib.hid he
   clear he
   by_cases hlt : m < n
   all_goals
    go_wp2
    go_ret
    exact ⟨ret_bool (by have:=h2.out;simp [this]),(Calm.refl w).alloc _⟩

set_option maxHeartbeats 1000000 in
theorem covers_c (h b : Pat) (i n : Nat) (HA : Option Addr) (hc : Nat) (A : Option Addr) (c : Nat) (w : World) (hi : i ≤ 4200000) (hn : n ≤ 4200000) (hh : StrsR w HA h.parts) (hb : StrsR w A b.parts) :
  Calls Tryz.prog 72 #[.agg #[.slice HA h.parts.length hc,.bool h.rest],.agg #[.slice A b.parts.length c,.bool b.rest],.int .i64 i,.int .i64 n] w fun e w'=>e = .returned (.bool (covers h b i n)) ∧ Calm w w':=by
 have hlen:=hh.len
 obtain ⟨m,hm⟩ : ∃ m,h.parts.length = m:=⟨_,rfl⟩
 rw [hm] at hlen
 obtain ⟨w1,hw1⟩ : ∃ w1,w1 = (w.alloc (.cells #[.slice HA m hc,.bool h.rest] 37)).alloc (.cells #[.slice A b.parts.length c,.bool b.rest] 37):=⟨_,rfl⟩
 have hc1 : Calm w w1:=by rw [hw1];exact ((Calm.refl w).alloc _).alloc _
 have hs1 : w1.heap.size = w.heap.size + 2:=by rw [hw1];simp
 have c0 : w1.cell? ⟨w.heap.size,0,none⟩ = some (.slice HA m hc):=by rw [hw1];simp
 have c1 : w1.cell? ⟨w.heap.size + 1,0,none⟩ = some (.slice A b.parts.length c):=by rw [hw1];simp
 have c2 : w1.cell? ⟨w.heap.size + 1,1,none⟩ = some (.bool b.rest):=by rw [hw1];simp
 have HC:=Lib.hid hc1
 have HM:=Lib.hid hm
 have HW:=Lib.hid hw1
 have HS:=Lib.hid hs1
 have HCells:=Lib.hid (And.intro c0 (And.intro c1 c2))
 have HH:=Lib.hid (hh.calm hc1)
 have HB:=Lib.hid (hb.calm hc1)
 rw [hm]
 clear hh hb hm hw1 hc1 hs1 c0 c1 c2
 go_enter Tryz.func72,Tryz.ntmps72
 go_wp2_with fail
 rw [← HW.out]
 go_loopw [9] (fun q wr=>∃ k : Nat,i ≤ k ∧ k ≤ max i n ∧ q = .int .i64 k ∧ Hid (∀ j,i ≤ j → j < k → j < n → j < m → inside (pAt b j) (pAt h j) = true) ∧ Hid (Calm w1 wr)) (fun q _=>max i n - (intOf q).toNat)
 case atStart=>exact ⟨i,Nat.le_refl _,by omega,rfl,fun j h1 h2=>absurd h2 (by omega),Calm.refl _⟩
 case round=>
  obtain ⟨k,hk1,hk2,rfl,HI,HCr⟩:=hrel
  have d0:=HCr.out.at_ HCells.out.1 (by rw [HS.out];omega)
  by_cases hkn : k < n
  ·by_cases hkm : k < m
   ·obtain ⟨bb,o,l,rfl,hbb,hl,hll,hcell⟩:=(HH.out.calm HCr.out).get (k:=k) (by rw [HM.out];exact hkm)
    have hpl : pAt h k = l:=by simp [pAt,List.getD_eq_getElem?_getD,hl]
    have HP:=Lib.hid hpl
    have e0 : ∀ p : CalmTo wr,p.w.cell? ⟨w.heap.size,0,none⟩ = some (.slice (some ⟨bb,o,none⟩) m hc):=fun p=>p.cell d0 (Nat.lt_of_lt_of_le (by rw [HS.out];omega) HCr.out.size)
    have e1 : ∀ p : CalmTo wr,p.w.cell? ⟨w.heap.size + 1,0,none⟩ = some (.slice A b.parts.length c):=fun p=>p.cell (HCr.out.at_ HCells.out.2.1 (by rw [HS.out];omega)) (Nat.lt_of_lt_of_le (by rw [HS.out];omega) HCr.out.size)
    have e2 : ∀ p : CalmTo wr,p.w.cell? ⟨w.heap.size + 1,1,none⟩ = some (.bool b.rest):=fun p=>p.cell (HCr.out.at_ HCells.out.2.2 (by rw [HS.out];omega)) (Nat.lt_of_lt_of_le (by rw [HS.out];omega) HCr.out.size)
    have e3 : ∀ p : CalmTo wr,p.w.cell? ⟨bb,o + k,none⟩ = some (.string (bs l)):=fun p=>p.cell hcell hbb
    have K1:=Lib.hid (fun p : CalmTo wr=>partAt_c b k A c p.w (by omega) (HB.out.calm (HCr.out.trans p.h)))
    have hpbl : (pAt b k).length ≤ 4194304:=by
     rcases Nat.lt_or_ge k b.parts.length with hkb | hkb
     ·have : pAt b k = b.parts[k]:=by simp [pAt,List.getD_eq_getElem?_getD,List.getElem?_eq_getElem hkb]
      rw [this];exact HB.out.each _ (List.getElem_mem hkb)
     ·rw [pAt_out hkb];simp
    have K2:=Lib.hid (fun p : CalmTo wr=>pwith_c (pAt b k) l p.w hpbl hll)
    obtain ⟨r,hr⟩ : ∃ r,inside (pAt b k) l = r:=⟨_,rfl⟩
    rw [hr] at K2
    have HR:=Lib.hid hr
    clear hl hpl hcell hr
    go_wp2_with fail
    refine wp_region_calm (by kernel_rfl) (by kernel_rfl) ?_
    repeat (go_big_quiet_step ((first | (go_at_call 97;exact calmOf (K1.out _)) | (go_at_call 68;exact calmOf (K2.out _)))))
    refine wpQuiet_nil ?_
    intro w2 hcw2
    cases r with
    |true=>
     go_wp2
     go_roundw
     case rel=>
      refine ⟨k + 1,by omega,by omega,by go_num,fun j h1 h2 h3 h4=>?_,HCr.out.trans hcw2⟩
      by_cases e : j = k
      ·subst e
       rw [HP.out]
       exact HR.out
      ·exact HI.out j h1 (by omega) h3 h4
     case measure=>simp [intOf];omega
    |false=>
     go_wp2
     go_ret
     exact ⟨ret_bool (cover_no hk1 hkn (by rw [HM.out];exact hkm) (by rw [HP.out];exact HR.out)).symm,HC.out.trans (HCr.out.trans hcw2)⟩
   ·have hv : Hid (covers h b i n = true):=covers_true.2 fun j h1 h2 h3=>HI.out j h1 (by rw [HM.out] at h3;omega) h2 (by rw [HM.out] at h3;exact h3)
    go_wp2
    go_ret
    exact ⟨ret_bool hv.out.symm,HC.out.trans HCr.out⟩
  ·have hv : Hid (covers h b i n = true):=covers_true.2 fun j h1 h2 h3=>HI.out j h1 (by omega) h2 (by rw [HM.out] at h3;exact h3)
   go_wp2
   go_ret
   exact ⟨ret_bool hv.out.symm,HC.out.trans HCr.out⟩
end Go.Proofs.YthopphabeddnfaaGreatDoor
set_option linter.unusedVariables false
set_option linter.unusedSimpArgs false
namespace Go.Proofs.YthopphabeddnfaaGreatDoor
open Go Go.RowKit Sy
def ixOf {α : Type} (pr : α → Bool) (ps : List α) : Int:=if ps.any pr then (ps.findIdx pr : Int) else -1
theorem ixOf_hit {α : Type} {pr : α → Bool} {ps : List α} {k : Nat} {p : α} (hk : ps[k]? = some p) (hp : pr p = true) (hall : ∀ j q,j < k → ps[j]? = some q → pr q = false) : ixOf pr ps = k:=by
 obtain ⟨hlt,he⟩:=List.getElem?_eq_some_iff.1 hk
 have h1 : ps.any pr = true:=List.any_eq_true.2 ⟨p,List.mem_of_getElem? hk,hp⟩
 have h2 : ps.findIdx pr = k:=(List.findIdx_eq hlt).2 ⟨by rw [he];exact hp,fun j hj=>hall j _ hj (List.getElem?_eq_getElem (by omega))⟩
 rw [ixOf,if_pos h1,h2]
theorem ixOf_miss {α : Type} {pr : α → Bool} {ps : List α} (hall : ∀ j q,j < ps.length → ps[j]? = some q → pr q = false) : ixOf pr ps = -1:=by
 have h1 : ps.any pr = false:=by
  rw [List.any_eq_false]
  intro q hq
  obtain ⟨j,hj,e⟩:=List.mem_iff_getElem.1 hq
  simp [hall j q hj (by rw [List.getElem?_eq_getElem hj,e])]
 rw [ixOf,h1]
 rfl
theorem ixOf_any {α : Type} (pr : α → Bool) (ps : List α) : decide (0 ≤ ixOf pr ps) = ps.any pr:=by
 unfold ixOf
 cases ps.any pr <;> simp
theorem none_step {α : Type} {pr : α → Bool} {ps : List α} {k : Nat} {p : α} (hk : ps[k]? = some p) (hp : pr p = false) (h : ∀ j q,j < k → ps[j]? = some q → pr q = false) : ∀ j q,j < k + 1 → ps[j]? = some q → pr q = false:=fun j q hj hq=>by
 by_cases e : j = k
 ·subst e
  rw [hk] at hq
  cases hq
  exact hp
 ·exact h j q (by omega) hq
def PredP (g : Nat) (lb : Array Value) (pr : Pat → Bool) (w : World) : Prop:=
 ∀ (W : World),Calm w W → ∀ (p : Pat) (A : Option Addr) (c : Nat),StrsR W A p.parts → p.parts.length ≤ c → c ≤ 9223372036854775807 → Calls Tryz.prog g (#[.agg #[.slice A p.parts.length c,.bool p.rest]] ++ lb) W fun e w'=>e = .returned (.bool (pr p)) ∧ Calm W w'

set_option maxHeartbeats 1000000 in
theorem pidx_c (g : Nat) (lb : Array Value) (eg : ∀ args w,(callFunc g args).run Tryz.prog w = .ok (.enter g args) w) (pr : Pat → Bool) (ps : List Pat) (A : Option Addr) (c : Nat) (w : World) (hr : PatsR w A ps) (hp : PredP g lb pr w) :
  Calls Tryz.prog 77 #[.slice A ps.length c,.func (.func g) #[] lb] w fun e w'=>e = .returned (.int .i64 (ixOf pr ps)) ∧ Calm w w':=by
 have hlen:=hr.len
 obtain ⟨n,hn⟩ : ∃ n,ps.length = n:=⟨_,rfl⟩
 have Hn:=Lib.hid hn
 have HR:=Lib.hid hr
 have HP:=Lib.hid hp
 rw [hn] at hlen
 rw [hn]
 clear hn hr hp
 go_enter Tryz.func77,Tryz.ntmps77
 go_wp2_with fail
 go_loopw [8] (fun i wr=>∃ k : Nat,k ≤ n ∧ i = .int .i64 k ∧ Hid (∀ j q,j < k → ps[j]? = some q → pr q = false) ∧ Hid (Calm w wr)) (fun i _=>n - (intOf i).toNat)
 case atStart=>exact ⟨0,Nat.zero_le _,rfl,fun j q hj=>absurd hj (Nat.not_lt_zero _),Calm.refl _⟩
 case round=>
  obtain ⟨k,hk,rfl,HI,HC⟩:=hrel
  by_cases hlt : k < n
  ·obtain ⟨b,o,p,Ak,ck,rfl,_,hpk,h1,h2,h3,h4,h5⟩:=(HR.out.calm HC.out).get (k:=k) (by rw [Hn.out];exact hlt)
   have HK:=Lib.hid hpk
   have hcall:=HP.out wr HC.out p Ak ck h5 h3 h4
   obtain ⟨r,hr⟩ : ∃ r,pr p = r:=⟨_,rfl⟩
   rw [hr] at hcall
   have HPr:=Lib.hid hr
   clear hpk h5 hr
   cases r with
   |true=>
    go_wp2_with (go_at_fn g;refine hcall.mono ?_;rintro e w' ⟨rfl,hb'⟩)
    go_ret
    exact ⟨ret_int (ixOf_hit HK.out HPr.out HI.out).symm,HC.out.trans hb'⟩
   |false=>
    go_wp2_with (go_at_fn g;refine hcall.mono ?_;rintro e w' ⟨rfl,hb'⟩)
    go_roundw
    case rel=>exact ⟨k + 1,by omega,by go_num,none_step HK.out HPr.out HI.out,HC.out.trans hb'⟩
    case measure=>simp [intOf];omega
  ·have hv : Hid (ixOf pr ps = -1):=ixOf_miss fun j q hj hq=>HI.out j q (by rw [Hn.out] at hj;omega) hq
   go_wp2
   go_ret
   exact ⟨ret_int hv.out.symm,HC.out⟩

set_option maxHeartbeats 400000 in
theorem pany_c (g : Nat) (lb : Array Value) (eg : ∀ args w,(callFunc g args).run Tryz.prog w = .ok (.enter g args) w) (pr : Pat → Bool) (ps : List Pat) (A : Option Addr) (c : Nat) (w : World) (hr : PatsR w A ps) (hp : PredP g lb pr w) :
  Calls Tryz.prog 52 #[.slice A ps.length c,.func (.func g) #[] lb] w fun e w'=>e = .returned (.bool (ps.any pr)) ∧ Calm w w':=by
 have h:=pidx_c g lb eg pr ps A c w hr hp
 have e:=ixOf_any pr ps
 rw [← e]
 clear hr hp eg e
 generalize ixOf pr ps = r at h ⊢
 go_enter Tryz.func52,Tryz.ntmps52
 go_wp2_with (go_at_call 77;refine h.mono ?_;rintro e w' ⟨rfl,hb'⟩)
 go_ret
 exact ⟨rfl,hb'⟩
end Go.Proofs.YthopphabeddnfaaGreatDoor
