/- Walk: the reference's Length. -/
import Derived.Test.YtnlnclefedohkaaGreatDoorZEntM
import Derived.Test.YtnlnclefedohkaaGreatDoorZRedM
set_option linter.unusedVariables false
set_option linter.unusedSimpArgs false
namespace Go.Proofs.YtnlnclefedohkaaGreatDoor
open Go Go.RowKit Sy

set_option maxHeartbeats 1000000 in
theorem rinside_c (x y : Str) (w : World) (hx : x.length ≤ 16384) (hy : y.length ≤ 16384) (hxo : partOk x = true) (hyo : partOk y = true) :
  Calls Tryz.prog 72 #[.string (bs x),.string (bs y)] w fun e w'=>e = .returned (.bool (inside x y)) ∧ w = w':=by
 by_cases hxy : x = y
 ·subst hxy
  have hv : inside x x = true:=by simp [inside]
  rw [hv]
  clear hv
  rcases hs : isStar x with _ | _
  ·have hst:=star_v x false [] w hx (by rw [starOk_iff hxo,hs]) (by rw [starSuf,starOk_iff hxo,hs];rfl)
   go_enter Tryz.func72,Tryz.ntmps72
   go_wp2_with (go_at_call 73;refine hst.mono ?_;rintro e w' ⟨rfl,rfl⟩)
   go_ret
   exact ⟨rfl,rfl⟩
  ·have hst:=star_v x true x.tail w hx (by rw [starOk_iff hxo,hs]) (by rw [starSuf,starOk_iff hxo,hs];rfl)
   have hsf:=hasSuffix_c x.tail x.tail w (by rw [List.length_tail];omega)
   have he : endsWith x.tail x.tail = true:=endsWith_iff.2 (List.suffix_refl _)
   rw [he] at hsf
   clear he
   go_enter Tryz.func72,Tryz.ntmps72
   go_wp2_with (first | (go_at_call 73;refine hst.mono ?_;rintro e w' ⟨rfl,rfl⟩) | (go_at_call 108;refine hsf.mono ?_;rintro e w' ⟨rfl,rfl⟩))
   go_ret
   exact ⟨rfl,rfl⟩
 ·have hne : (x == y) = false:=by simpa using hxy
  rcases hsy : isStar y with _ | _
  ·have hv : inside x y = false:=by simp [inside,hne,hsy]
   rw [hv]
   clear hv hxy
   have hty:=star_v y false [] w hy (by rw [starOk_iff hyo,hsy]) (by rw [starSuf,starOk_iff hyo,hsy];rfl)
   have htx:=star_c x w (by omega)
   go_enter Tryz.func72,Tryz.ntmps72
   go_wp2_with (first | (go_at_call_of 73 (bs x);refine htx.mono ?_;rintro e w' ⟨rfl,rfl⟩) | (go_at_call_of 73 (bs y);refine hty.mono ?_;rintro e w' ⟨rfl,rfl⟩))
   go_ret
   exact ⟨rfl,rfl⟩
  ·have hty:=star_v y true y.tail w hy (by rw [starOk_iff hyo,hsy]) (by rw [starSuf,starOk_iff hyo,hsy];rfl)
   rcases hsx : isStar x with _ | _
   ·have hv : inside x y = mtch y x:=by simp [inside,hne,hsx,hsy]
    rw [hv]
    clear hv hxy
    have htx:=star_v x false [] w hx (by rw [starOk_iff hxo,hsx]) (by rw [starSuf,starOk_iff hxo,hsx];rfl)
    have hco : comp x = true:=by
     have h1:=starOk_iff hxo
     rw [hsx] at h1
     simpa [partOk,h1] using hxo
    have hca:=cap_c y x w hy (by omega) hyo hco
    generalize mtch y x = r at hca ⊢
    go_enter Tryz.func72,Tryz.ntmps72
    go_wp2_with (first | (go_at_call_of 73 (bs x);refine htx.mono ?_;rintro e w' ⟨rfl,rfl⟩) | (go_at_call_of 73 (bs y);refine hty.mono ?_;rintro e w' ⟨rfl,rfl⟩) | (go_at_call 74;refine hca.mono ?_;rintro e w' ⟨rfl,rfl⟩))
    go_ret
    exact ⟨rfl,rfl⟩
   ·have hv : inside x y = endsWith x.tail y.tail:=by simp [inside,hne,hsx,hsy]
    rw [hv]
    clear hv hxy
    have htx:=star_v x true x.tail w hx (by rw [starOk_iff hxo,hsx]) (by rw [starSuf,starOk_iff hxo,hsx];rfl)
    have hsf:=hasSuffix_c x.tail y.tail w (by rw [List.length_tail];omega)
    generalize endsWith x.tail y.tail = r at hsf ⊢
    go_enter Tryz.func72,Tryz.ntmps72
    go_wp2_with (first | (go_at_call_of 73 (bs x);refine htx.mono ?_;rintro e w' ⟨rfl,rfl⟩) | (go_at_call_of 73 (bs y);refine hty.mono ?_;rintro e w' ⟨rfl,rfl⟩) | (go_at_call 108;refine hsf.mono ?_;rintro e w' ⟨rfl,rfl⟩))
    go_ret
    exact ⟨rfl,rfl⟩

end Go.Proofs.YtnlnclefedohkaaGreatDoor
set_option linter.unusedVariables false
set_option linter.unusedSimpArgs false
namespace Go.Proofs.YtnlnclefedohkaaGreatDoor
open Go Go.RowKit Sy

set_option maxHeartbeats 400000 in
theorem counts_c (p : Pat) (n : Nat) (A : Option Addr) (c : Nat) (w : World) (hlen : p.parts.length ≤ 16384) : Calls Tryz.prog 138 #[.agg #[.slice A p.parts.length c,.bool p.rest],.int .i64 n] w fun e w'=>e = .returned (.bool (reaches p n)) ∧ Calm w w':=by
 obtain ⟨m,hm⟩ : ∃ m,p.parts.length = m:=⟨_,rfl⟩
 rw [hm] at hlen ⊢
 cases hr : p.rest with
 |true=>
  have hv : reaches p n = decide ((m : Int) < (n : Int)):=by simp [reaches,hr,hm]
  rw [hv]
  clear hv hr hm
  go_enter Tryz.func138,Tryz.ntmps138
  go_wp2
  go_ret
  exact ⟨ret_bool (by simp),(Calm.refl w).alloc _⟩
 |false=>
  have hv : reaches p n = ((n : Int) == (m : Int)):=by
   simp only [reaches,hr,hm,Bool.false_eq_true,if_false]
   rw [Bool.eq_iff_iff]
   simp
   omega
  rw [hv]
  clear hv hr hm
  go_enter Tryz.func138,Tryz.ntmps138
  go_wp2
  go_ret
  exact ⟨rfl,(Calm.refl w).alloc _⟩

set_option maxHeartbeats 400000 in
theorem rpart_c (p : Pat) (i : Nat) (A : Option Addr) (c : Nat) (w : World) (hi : i ≤ 20000) (hr : StrsR w A p.parts) : Calls Tryz.prog 139 #[.agg #[.slice A p.parts.length c,.bool p.rest],.int .i64 i] w fun e w'=>e = .returned (.string (bs (pAt p i))) ∧ Calm w w':=by
 have hlen:=hr.len
 obtain ⟨n,hn⟩ : ∃ n,p.parts.length = n:=⟨_,rfl⟩
 have Hn:=Lib.hid hn
 rw [hn] at hlen
 rw [hn]
 by_cases hlt : i < n
 ·obtain ⟨b,o,l,rfl,hb,hl,hll,hcell⟩:=(hr.calm ((Calm.refl w).alloc (.cells #[.slice A n c,.bool p.rest] 40))).get (k:=i) (by rw [hn];exact hlt)
  have hv : pAt p i = l:=by simp [pAt,List.getD_eq_getElem?_getD,hl]
  rw [hv]
  clear hv hl hr hn
  go_enter Tryz.func139,Tryz.ntmps139
  go_wp2
  go_ret
  exact ⟨rfl,(Calm.refl w).alloc _⟩
 ·have hv : pAt p i = [42]:=pAt_out (by omega)
  rw [hv]
  clear hv hr hn
  go_enter Tryz.func139,Tryz.ntmps139
  go_wp2
  go_ret
  exact ⟨rfl,(Calm.refl w).alloc _⟩


theorem counts_v (p : Pat) (n : Nat) (r : Bool) (A : Option Addr) (c : Nat) (w : World) (hv : reaches p n = r) (hlen : p.parts.length ≤ 16384) : Calls Tryz.prog 138 #[.agg #[.slice A p.parts.length c,.bool p.rest],.int .i64 n] w fun e w'=>e = .returned (.bool r) ∧ Calm w w':=hv ▸ counts_c p n A c w hlen

set_option maxHeartbeats 1000000 in
theorem rcovers_c (h b : Pat) (i n : Nat) (HA : Option Addr) (hc : Nat) (A : Option Addr) (c : Nat) (w : World) (hi : i ≤ 20000) (hn : n ≤ 20000) (hh : StrsR w HA h.parts) (hb : StrsR w A b.parts) (gh : goodPat h) (gb : goodPat b) :
  Calls Tryz.prog 111 #[.agg #[.slice A b.parts.length c,.bool b.rest],.agg #[.slice HA h.parts.length hc,.bool h.rest],.int .i64 i,.int .i64 n] w fun e w'=>e = .returned (.bool (reaches h n && covers h b i n)) ∧ Calm w w':=by
 have hlen:=hh.len
 obtain ⟨m,hm⟩ : ∃ m,h.parts.length = m:=⟨_,rfl⟩
 obtain ⟨w1,hw1⟩ : ∃ w1,w1 = (w.alloc (.cells #[.slice A b.parts.length c,.bool b.rest] 40)).alloc (.cells #[.slice HA m hc,.bool h.rest] 40):=⟨_,rfl⟩
 have hc1 : Calm w w1:=by rw [hw1];exact ((Calm.refl w).alloc _).alloc _
 have hs1 : w1.heap.size = w.heap.size + 2:=by rw [hw1];simp
 have c0 : w1.cell? ⟨w.heap.size + 1,0,none⟩ = some (.slice HA m hc):=by rw [hw1];simp
 have c1 : w1.cell? ⟨w.heap.size,0,none⟩ = some (.slice A b.parts.length c):=by rw [hw1];simp
 have c2 : w1.cell? ⟨w.heap.size,1,none⟩ = some (.bool b.rest):=by rw [hw1];simp
 obtain ⟨re,hre⟩ : ∃ re,reaches h n = re:=⟨_,rfl⟩
 have hcnt:=counts_v h n re HA hc w1 hre hlen
 rw [hm] at hcnt hlen
 have HC:=Lib.hid hc1
 have HM:=Lib.hid hm
 have HW:=Lib.hid hw1
 have HS:=Lib.hid hs1
 have HRe:=Lib.hid hre
 have HCells:=Lib.hid (And.intro c0 (And.intro c1 c2))
 have HH:=Lib.hid (hh.calm hc1)
 have HB:=Lib.hid (hb.calm hc1)
 rw [hm]
 clear hh hb hm hw1 hc1 hs1 c0 c1 c2 hre
 go_enter Tryz.func111,Tryz.ntmps111
 cases re with
 |false=>
  go_wp2_with (go_at_call 138;rw [← HW.out];refine hcnt.mono ?_;rintro e w2 ⟨rfl,hc2⟩)
  go_ret
  exact ⟨ret_bool (by rw [HRe.out];rfl),HC.out.trans hc2⟩
 |true=>
  go_wp2_with (go_at_call 138;rw [← HW.out];refine hcnt.mono ?_;rintro e w2 ⟨rfl,hc2⟩)
  have HC2:=Lib.hid hc2
  clear hcnt hc2
  go_loopw [2] (fun q wr=>∃ k : Nat,i ≤ k ∧ k ≤ max i n ∧ q = .int .i64 k ∧ Hid (∀ j,i ≤ j → j < k → j < n → j < m → inside (pAt b j) (pAt h j) = true) ∧ Hid (Calm w1 wr)) (fun q _=>max i n - (intOf q).toNat)
  case atStart=>exact ⟨i,Nat.le_refl _,by omega,rfl,fun j h1 h2=>absurd h2 (by omega),HC2.out⟩
  case round=>
   obtain ⟨k,hk1,hk2,rfl,HI,HCr⟩:=hrel
   have d0:=HCr.out.at_ HCells.out.1 (by rw [HS.out];omega)
   by_cases hkn : k < n
   ·by_cases hkm : k < m
    ·obtain ⟨bb,o,l,rfl,hbb,hl,hll,hcell⟩:=(HH.out.calm HCr.out).get (k:=k) (by rw [HM.out];exact hkm)
     have hpl : pAt h k = l:=by simp [pAt,List.getD_eq_getElem?_getD,hl]
     have hlo : partOk l = true:=by rw [← hpl];exact goodPat_at gh k
     have HP:=Lib.hid hpl
     have e0 : ∀ p : CalmTo wr,p.w.cell? ⟨w.heap.size + 1,0,none⟩ = some (.slice (some ⟨bb,o,none⟩) m hc):=fun p=>p.cell d0 (Nat.lt_of_lt_of_le (by rw [HS.out];omega) HCr.out.size)
     have e1 : ∀ p : CalmTo wr,p.w.cell? ⟨w.heap.size,0,none⟩ = some (.slice A b.parts.length c):=fun p=>p.cell (HCr.out.at_ HCells.out.2.1 (by rw [HS.out];omega)) (Nat.lt_of_lt_of_le (by rw [HS.out];omega) HCr.out.size)
     have e2 : ∀ p : CalmTo wr,p.w.cell? ⟨w.heap.size,1,none⟩ = some (.bool b.rest):=fun p=>p.cell (HCr.out.at_ HCells.out.2.2 (by rw [HS.out];omega)) (Nat.lt_of_lt_of_le (by rw [HS.out];omega) HCr.out.size)
     have e3 : ∀ p : CalmTo wr,p.w.cell? ⟨bb,o + k,none⟩ = some (.string (bs l)):=fun p=>p.cell hcell hbb
     have K1:=Lib.hid (fun p : CalmTo wr=>rpart_c b k A c p.w (by omega) (HB.out.calm (HCr.out.trans p.h)))
     have K2:=Lib.hid (fun p : CalmTo wr=>rinside_c (pAt b k) l p.w (pAt_len HB.out) hll (goodPat_at gb k) hlo)
     obtain ⟨r,hr⟩ : ∃ r,inside (pAt b k) l = r:=⟨_,rfl⟩
     rw [hr] at K2
     have HR:=Lib.hid hr
     clear hl hpl hcell hr hlo
     go_wp2_with fail
     refine wp_region_calm (by kernel_rfl) (by kernel_rfl) ?_
     repeat (go_big_quiet_step ((first | (go_at_call 139;exact calmOf (K1.out _)) | (go_at_call 72;exact calmOfL (K2.out _)))))
     refine wpQuiet_nil ?_
     intro w3 hcw3
     cases r with
     |true=>
      go_wp2
      go_roundw
      case rel=>
       refine ⟨k + 1,by omega,by omega,by go_num,fun j h1 h2 h3 h4=>?_,HCr.out.trans hcw3⟩
       by_cases e : j = k
       ·subst e
        rw [HP.out]
        exact HR.out
       ·exact HI.out j h1 (by omega) h3 h4
      case measure=>simp [intOf];omega
     |false=>
      go_wp2
      go_ret
      exact ⟨ret_bool (by rw [HRe.out,cover_no hk1 hkn (by rw [HM.out];exact hkm) (by rw [HP.out];exact HR.out)];rfl),HC.out.trans (HCr.out.trans hcw3)⟩
    ·have hv : Hid (covers h b i n = true):=covers_true.2 fun j h1 h2 h3=>HI.out j h1 (by rw [HM.out] at h3;omega) h2 (by rw [HM.out] at h3;exact h3)
     go_wp2
     go_ret
     exact ⟨ret_bool (by rw [HRe.out,hv.out];rfl),HC.out.trans HCr.out⟩
   ·have hv : Hid (covers h b i n = true):=covers_true.2 fun j h1 h2 h3=>HI.out j h1 (by omega) h2 (by rw [HM.out] at h3;exact h3)
    go_wp2
    go_ret
    exact ⟨ret_bool (by rw [HRe.out,hv.out];rfl),HC.out.trans HCr.out⟩

theorem rcovers_v (h b : Pat) (i n : Nat) (r : Bool) (HA : Option Addr) (hc : Nat) (A : Option Addr) (c : Nat) (w : World) (hv : (reaches h n && covers h b i n) = r) (hi : i ≤ 20000) (hn : n ≤ 20000) (hh : StrsR w HA h.parts) (hb : StrsR w A b.parts) (gh : goodPat h) (gb : goodPat b) :
  Calls Tryz.prog 111 #[.agg #[.slice A b.parts.length c,.bool b.rest],.agg #[.slice HA h.parts.length hc,.bool h.rest],.int .i64 i,.int .i64 n] w fun e w'=>e = .returned (.bool r) ∧ Calm w w':=hv ▸ rcovers_c h b i n HA hc A c w hi hn hh hb gh gb

set_option maxHeartbeats 1000000 in
theorem full_c (b : Pat) (hs : List Pat) (n : Nat) (A : Option Addr) (c : Nat) (HA : Option Addr) (hc : Nat) (w : World) (hn : n ≤ 20000) (hb : StrsR w A b.parts) (hh : PatsR w HA hs) (gb : goodPat b) (gh : ∀ h ∈ hs,goodPat h) :
  Calls Tryz.prog 78 #[.agg #[.slice A b.parts.length c,.bool b.rest,.slice HA hs.length hc],.int .i64 n] w fun e w'=>e = .returned (.bool (full b hs n)) ∧ Calm w w':=by
 have hlen:=hh.len
 obtain ⟨hn2,hhn⟩ : ∃ hn2,hs.length = hn2:=⟨_,rfl⟩
 rw [hhn] at hlen
 obtain ⟨w1,hw1⟩ : ∃ w1,w1 = w.alloc (.cells #[.slice A b.parts.length c,.bool b.rest,.slice HA hn2 hc] 68):=⟨_,rfl⟩
 have hc1 : Calm w w1:=by rw [hw1];exact (Calm.refl w).alloc _
 have hs1 : w.heap.size < w1.heap.size:=by rw [hw1];simp
 have k0 : w1.cell? ⟨w.heap.size,0,none⟩ = some (.slice A b.parts.length c):=by rw [hw1];simp
 have k1 : w1.cell? ⟨w.heap.size,1,none⟩ = some (.bool b.rest):=by rw [hw1];simp
 have k2 : w1.cell? ⟨w.heap.size,2,none⟩ = some (.slice HA hn2 hc):=by rw [hw1];simp
 have HW:=Lib.hid hw1
 have HC:=Lib.hid hc1
 have Hhn:=Lib.hid hhn
 have HK:=Lib.hid (And.intro hs1 (And.intro k0 (And.intro k1 k2)))
 have HB:=Lib.hid (hb.calm hc1)
 have HH:=Lib.hid (hh.calm hc1)
 have HG:=Lib.hid gh
 rw [hhn]
 clear hw1 hc1 hhn hs1 k0 k1 k2 hb hh gh
 go_enter Tryz.func78,Tryz.ntmps78
 go_wp2_with fail
 rw [← HW.out]
 go_loopw [10] (fun q wr=>∃ k : Nat,k ≤ hn2 ∧ q = .int .i64 k ∧ Hid (∀ j h,j < k → hs[j]? = some h → (reaches h n && covers h b 0 n) = false) ∧ Hid (Calm w1 wr)) (fun q _=>hn2 - (intOf q).toNat)
 case atStart=>exact ⟨0,Nat.zero_le _,rfl,fun j h hj=>absurd hj (Nat.not_lt_zero _),Calm.refl _⟩
 case round=>
  obtain ⟨k,hk,rfl,HI,HCr⟩:=hrel
  by_cases hlt : k < hn2
  ·obtain ⟨bb,o,p,Ak,ck,rfl,hbb,hpk,h1,h2,h3,h4,h5⟩:=(HH.out.calm HCr.out).get (k:=k) (by rw [Hhn.out];exact hlt)
   have l0:=HCr.out.at_ HK.out.2.1 HK.out.1
   have l1:=HCr.out.at_ HK.out.2.2.1 HK.out.1
   have ls : w.heap.size < wr.heap.size:=Nat.lt_of_lt_of_le HK.out.1 HCr.out.size
   have HPk:=Lib.hid hpk
   have H5:=Lib.hid h5
   have gp:=HG.out p (List.mem_of_getElem? hpk)
   obtain ⟨r,hr⟩ : ∃ r,(reaches p n && covers p b 0 n) = r:=⟨_,rfl⟩
   have HR:=Lib.hid hr
   clear hpk h5 hr
   cases r with
   |true=>
    go_wp2_with (go_at_call 111;refine (rcovers_v p b 0 n true _ _ _ _ _ HR.out (by omega) hn (H5.out.calm ((Calm.refl _).alloc _)) ((HB.out.calm HCr.out).calm ((Calm.refl _).alloc _)) gp gb).mono ?_;rintro e w3 ⟨rfl,hc3⟩)
    go_ret
    have hv : full b hs n = true:=List.any_eq_true.2 ⟨p,List.mem_of_getElem? HPk.out,HR.out⟩
    exact ⟨ret_bool hv.symm,HC.out.trans (HCr.out.trans (((Calm.refl _).alloc _).trans hc3))⟩
   |false=>
    go_wp2_with (go_at_call 111;refine (rcovers_v p b 0 n false _ _ _ _ _ HR.out (by omega) hn (H5.out.calm ((Calm.refl _).alloc _)) ((HB.out.calm HCr.out).calm ((Calm.refl _).alloc _)) gp gb).mono ?_;rintro e w3 ⟨rfl,hc3⟩)
    go_roundw
    case rel=>exact ⟨k + 1,by omega,by go_num,none_step (pr:=fun h=>reaches h n && covers h b 0 n) HPk.out HR.out HI.out,HCr.out.trans (((Calm.refl _).alloc _).trans hc3)⟩
    case measure=>simp [intOf];omega
  ·have hv : Hid (full b hs n = false):=by
    show full b hs n = false
    rw [full,List.any_eq_false]
    intro h hm
    obtain ⟨j,hj,e⟩:=List.mem_iff_getElem.1 hm
    rw [HI.out j h (by rw [Hhn.out] at hj;omega) (by rw [List.getElem?_eq_getElem hj,e])]
    simp
   go_wp2
   go_ret
   exact ⟨ret_bool hv.out.symm,HC.out.trans HCr.out⟩
theorem full_v (b : Pat) (hs : List Pat) (n : Nat) (r : Bool) (A : Option Addr) (c : Nat) (HA : Option Addr) (hc : Nat) (w : World) (hv : full b hs n = r) (hn : n ≤ 20000) (hb : StrsR w A b.parts) (hh : PatsR w HA hs) (gb : goodPat b) (gh : ∀ h ∈ hs,goodPat h) :
  Calls Tryz.prog 78 #[.agg #[.slice A b.parts.length c,.bool b.rest,.slice HA hs.length hc],.int .i64 n] w fun e w'=>e = .returned (.bool r) ∧ Calm w w':=hv ▸ full_c b hs n A c HA hc w hn hb hh gb gh

end Go.Proofs.YtnlnclefedohkaaGreatDoor
set_option linter.unusedVariables false
set_option linter.unusedSimpArgs false
namespace Go.Proofs.YtnlnclefedohkaaGreatDoor
open Go Go.RowKit Sy

set_option maxHeartbeats 2000000 in
theorem rlen_c (b : Pat) (hs : List Pat) (A : Option Addr) (c : Nat) (HA : Option Addr) (hc : Nat) (w : World) (hb : StrsR w A b.parts) (hh : PatsR w HA hs) (gb : goodPat b) (gh : ∀ h ∈ hs,goodPat h) :
  Calls Tryz.prog 42 #[.agg #[.slice A b.parts.length c,.bool b.rest,.slice HA hs.length hc]] w fun e w'=>e = .returned (.int .i64 (leastLen b hs)) ∧ Calm w w':=by
 have hlen:=hb.len
 have hhl:=hh.len
 have hls:=hh.lens
 have hbd:=lastTo_bound (b:=b) (hs:=hs) hlen hls
 obtain ⟨m,hm⟩ : ∃ m,b.parts.length = m:=⟨_,rfl⟩
 obtain ⟨hn,hhn⟩ : ∃ hn,hs.length = hn:=⟨_,rfl⟩
 obtain ⟨re,hre⟩ : ∃ re,b.rest = re:=⟨_,rfl⟩
 obtain ⟨w1,hw1⟩ : ∃ w1,w1 = w.alloc (.cells #[.slice A m c,.bool re,.slice HA hn hc] 68):=⟨_,rfl⟩
 have hc1 : Calm w w1:=by rw [hw1];exact (Calm.refl w).alloc _
 have hs1 : w.heap.size < w1.heap.size:=by rw [hw1];simp
 have k0 : w1.cell? ⟨w.heap.size,0,none⟩ = some (.slice A m c):=by rw [hw1];simp
 have k1 : w1.cell? ⟨w.heap.size,1,none⟩ = some (.bool re):=by rw [hw1];simp
 have k2 : w1.cell? ⟨w.heap.size,2,none⟩ = some (.slice HA hn hc):=by rw [hw1];simp
 have HFull : Hid (∀ (W : World),Calm w1 W → ∀ n r,n ≤ 20000 → full b hs n = r → Calls Tryz.prog 78 #[.agg #[.slice A m c,.bool re,.slice HA hn hc],.int .i64 (n : Nat)] W fun e w'=>e = .returned (.bool r) ∧ Calm W w'):=fun W hW n r hn hr=>by
  have:=full_v b hs n r A c HA hc W hr hn ((hb.calm hc1).calm hW) ((hh.calm hc1).calm hW) gb gh
  rw [hm,hre,hhn] at this
  exact this
 rw [hm] at hlen hbd
 rw [hhn] at hhl
 have HC:=Lib.hid hc1
 have HW:=Lib.hid hw1
 have HM:=Lib.hid hm
 have Hhn:=Lib.hid hhn
 have HRe:=Lib.hid hre
 have HK:=Lib.hid (And.intro hs1 (And.intro k0 (And.intro k1 k2)))
 have HH:=Lib.hid (hh.calm hc1)
 have HBd:=Lib.hid hbd
 rw [hm,hhn,hre]
 clear hb hh hm hhn hw1 hc1 hs1 k0 k1 k2 hls hbd hre gb gh
 go_enter Tryz.func42,Tryz.ntmps42
 cases re with
 |false=>
  obtain ⟨r,hr⟩ : ∃ r,full b hs m = r:=⟨_,rfl⟩
  have hv : Hid (leastLen b hs = if r then 0 else m):=by
   show leastLen b hs = _
   unfold leastLen firstLen lastLen
   rw [HRe.out,if_neg (by simp),if_neg (by simp),HM.out,show m + 1 - m = 1 by omega]
   cases r with
   |true=>rw [seek_go hr (by omega)];rfl
   |false=>rw [seek_stop hr (by omega)];rfl
  have hcall:=HFull.out w1 (Calm.refl _) m r (by omega) hr
  have l0:=HK.out.2.1
  have ls:=HK.out.1
  clear hr HFull
  cases r with
  |true=>
   go_wp2_with (go_at_call 78;rw [← HW.out];refine hcall.mono ?_;rintro e w2 ⟨rfl,hc2⟩)
   go_ret
   exact ⟨ret_int (by rw [hv.out];rfl),HC.out.trans hc2⟩
  |false=>
   go_wp2_with (go_at_call 78;rw [← HW.out];refine hcall.mono ?_;rintro e w2 ⟨rfl,hc2⟩;have l2:=hc2.at_ l0 ls)
   go_ret
   exact ⟨ret_int (by rw [hv.out];rfl),HC.out.trans hc2⟩
 |true=>
  go_wp2_with fail
  rw [← HW.out]
  go_loopw [3,28] (fun t q wr=>∃ k T : Nat,k ≤ hn ∧ q = .int .i64 k ∧ t = .int .i64 T ∧ T ≤ 16384 ∧ m ≤ T ∧ Hid (lastTo b hs k = T + 1) ∧ Hid (Calm w1 wr)) (fun _ q _=>hn - (intOf q).toNat)
  case atStart=>exact ⟨0,m,Nat.zero_le _,rfl,rfl,hlen,Nat.le_refl _,by show lastTo b hs 0 = m + 1;simp [lastTo,HM.out],Calm.refl _⟩
  case round=>
   obtain ⟨k,T,hk,rfl,rfl,hT1,hT2,HLT,HCr⟩:=hrel
   by_cases hlt : k < hn
   ·obtain ⟨bb,o,p,Ak,ck,rfl,_,hpk,h1,h2,h3,h4,h5⟩:=(HH.out.calm HCr.out).get (k:=k) (by rw [Hhn.out];exact hlt)
    have hpl:=h5.len
    have hst:=lastTo_succ (b:=b) hpk
    rw [HLT.out] at hst
    have HST:=Lib.hid hst
    clear hst h5 hpk
    go_wp2
    go_roundw
    case rel=>exact ⟨k + 1,max T p.parts.length,by omega,by go_num,congrArg (Value.int .i64) (by omega),by omega,by omega,(by show lastTo b hs (k + 1) = _;rw [HST.out];omega),HCr.out.alloc _⟩
    case measure=>simp [intOf];omega
   ·have hk2 : k = hs.length:=by rw [Hhn.out];omega
    have hle : Hid (leastLen b hs = seek b hs (m + 1) (T + 2 - (m + 1))):=by
     show leastLen b hs = _
     have hl2 : lastLen b hs = T + 1:=by
      have:=HLT.out
      rw [lastTo,hk2,List.take_length] at this
      rw [lastLen,if_pos HRe.out,this]
     have hf2 : firstLen b = m + 1:=by rw [firstLen,if_pos HRe.out,HM.out]
     rw [leastLen,hl2,hf2]
    have l0:=HCr.out.at_ HK.out.2.1 HK.out.1
    have ls : w.heap.size < wr.heap.size:=Nat.lt_of_lt_of_le HK.out.1 HCr.out.size
    clear HLT hk2
    have HCX:=HCr
    go_wp2_with fail
    go_loopw [6] (fun q wr=>∃ n : Nat,n ≤ T + 2 ∧ q = .int .i64 n ∧ Hid (leastLen b hs = seek b hs n (T + 2 - n)) ∧ Hid (Calm w1 wr)) (fun q _=>T + 2 - (intOf q).toNat)
    case atStart=>exact ⟨m + 1,by omega,by go_num,hle,HCX.out⟩
    case round=>
     obtain ⟨n,hn1,rfl,HSk,HCr2⟩:=hrel
     have l0:=HCr2.out.at_ HK.out.2.1 HK.out.1
     have l1:=HCr2.out.at_ HK.out.2.2.1 HK.out.1
     have l2:=HCr2.out.at_ HK.out.2.2.2 HK.out.1
     by_cases hnl : n ≤ T + 1
     ·obtain ⟨r,hr⟩ : ∃ r,full b hs n = r:=⟨_,rfl⟩
      have hcall:=HFull.out _ HCr2.out n r (by omega) hr
      have HR:=Lib.hid hr
      clear hr
      cases r with
      |true=>
       go_wp2_with (go_at_call 78;refine hcall.mono ?_;rintro e w3 ⟨rfl,hc3⟩)
       go_roundw
       case rel=>exact ⟨n + 1,by omega,by go_num,(by show leastLen b hs = _;rw [HSk.out,seek_go HR.out (by omega)];congr 1),HCr2.out.trans hc3⟩
       case measure=>simp [intOf];omega
      |false=>
       go_wp2_with (go_at_call 78;refine hcall.mono ?_;rintro e w3 ⟨rfl,hc3⟩)
       go_ret
       exact ⟨ret_int (by rw [HSk.out,seek_stop HR.out (by omega)]),HC.out.trans (HCr2.out.trans hc3)⟩
     ·have hz : Hid (leastLen b hs = 0):=by
       show leastLen b hs = 0
       rw [HSk.out,show T + 2 - n = 0 by omega]
       rfl
      clear HSk
      go_wp2
      go_ret
      exact ⟨ret_int (by rw [hz.out];rfl),HC.out.trans HCr2.out⟩
end Go.Proofs.YtnlnclefedohkaaGreatDoor
