/- Walk: the reference's common. -/
import Derived.Deep.DeepCutAuto
import Derived.Deep.RegionHeld3
import Derived.Test.YtnlnclefedohkaaGreatDoorZVoidA
import Derived.Test.YtnlnclefedohkaaGreatDoorZRefA
import Derived.Test.YtnlnclefedohkaaGreatDoorZColE
import Derived.Test.YtnlnclefedohkaaGreatDoorZCommonP
import Derived.Test.YtnlnclefedohkaaGreatDoorZRMeetY
set_option linter.unusedVariables false
set_option linter.unusedSimpArgs false
namespace Go.Proofs.YtnlnclefedohkaaGreatDoor
open Go Go.RowKit Sy

set_option maxHeartbeats 400000 in
theorem counts_c (p : Pat) (n : Nat) (A : Option Addr) (c : Nat) (w : World) (hlen : p.parts.length ≤ 16384) : Calls Tryz.prog 138 #[.agg #[.slice A p.parts.length c,.bool p.rest],.int .i64 n] w fun e w'=>e = .returned (.bool (reaches p n)) ∧ Calm w w':=by
 obtain ⟨m,hm⟩ : ∃ m,p.parts.length = m:=⟨_,rfl⟩
 rw [hm] at hlen ⊢
 cases hr : p.rest with
 |true=>
  have hv : reaches p n = decide ((m : Int) < (n : Int)):=by simp [reaches,hr,hm]
  rw [hv]
  clear hv hr hm
  go_enter Tryz.func138,Tryz.ntmps138
  go_wp2
  go_ret
  exact ⟨ret_bool (by simp),(Calm.refl w).alloc _⟩
 |false=>
  have hv : reaches p n = ((n : Int) == (m : Int)):=by
   simp only [reaches,hr,hm,Bool.false_eq_true,if_false]
   rw [Bool.eq_iff_iff]
   simp
   omega
  rw [hv]
  clear hv hr hm
  go_enter Tryz.func138,Tryz.ntmps138
  go_wp2
  go_ret
  exact ⟨rfl,(Calm.refl w).alloc _⟩

set_option maxHeartbeats 400000 in
theorem rpart_c (p : Pat) (i : Nat) (A : Option Addr) (c : Nat) (w : World) (hi : i ≤ 20000) (hr : StrsR w A p.parts) : Calls Tryz.prog 139 #[.agg #[.slice A p.parts.length c,.bool p.rest],.int .i64 i] w fun e w'=>e = .returned (.string (bs (pAt p i))) ∧ Calm w w':=by
 have hlen:=hr.len
 obtain ⟨n,hn⟩ : ∃ n,p.parts.length = n:=⟨_,rfl⟩
 have Hn:=Lib.hid hn
 rw [hn] at hlen
 rw [hn]
 by_cases hlt : i < n
 ·obtain ⟨b,o,l,rfl,hb,hl,hll,hcell⟩:=(hr.calm ((Calm.refl w).alloc (.cells #[.slice A n c,.bool p.rest] 40))).get (k:=i) (by rw [hn];exact hlt)
  have hv : pAt p i = l:=by simp [pAt,List.getD_eq_getElem?_getD,hl]
  rw [hv]
  clear hv hl hr hn
  go_enter Tryz.func139,Tryz.ntmps139
  go_wp2
  go_ret
  exact ⟨rfl,(Calm.refl w).alloc _⟩
 ·have hv : pAt p i = [42]:=pAt_out (by omega)
  rw [hv]
  clear hv hr hn
  go_enter Tryz.func139,Tryz.ntmps139
  go_wp2
  go_ret
  exact ⟨rfl,(Calm.refl w).alloc _⟩


theorem counts_v (p : Pat) (n : Nat) (r : Bool) (A : Option Addr) (c : Nat) (w : World) (hv : reaches p n = r) (hlen : p.parts.length ≤ 16384) : Calls Tryz.prog 138 #[.agg #[.slice A p.parts.length c,.bool p.rest],.int .i64 n] w fun e w'=>e = .returned (.bool r) ∧ Calm w w':=hv ▸ counts_c p n A c w hlen

set_option maxHeartbeats 1000000 in
theorem rcovers_c (h b : Pat) (i n : Nat) (HA : Option Addr) (hc : Nat) (A : Option Addr) (c : Nat) (w : World) (hi : i ≤ 20000) (hn : n ≤ 20000) (hh : StrsR w HA h.parts) (hb : StrsR w A b.parts) (gh : goodPat h) (gb : goodPat b) :
  Calls Tryz.prog 111 #[.agg #[.slice A b.parts.length c,.bool b.rest],.agg #[.slice HA h.parts.length hc,.bool h.rest],.int .i64 i,.int .i64 n] w fun e w'=>e = .returned (.bool (reaches h n && covers h b i n)) ∧ Calm w w':=by
 have hlen:=hh.len
 obtain ⟨m,hm⟩ : ∃ m,h.parts.length = m:=⟨_,rfl⟩
 obtain ⟨w1,hw1⟩ : ∃ w1,w1 = (w.alloc (.cells #[.slice A b.parts.length c,.bool b.rest] 40)).alloc (.cells #[.slice HA m hc,.bool h.rest] 40):=⟨_,rfl⟩
 have hc1 : Calm w w1:=by rw [hw1];exact ((Calm.refl w).alloc _).alloc _
 have hs1 : w1.heap.size = w.heap.size + 2:=by rw [hw1];simp
 have c0 : w1.cell? ⟨w.heap.size + 1,0,none⟩ = some (.slice HA m hc):=by rw [hw1];simp
 have c1 : w1.cell? ⟨w.heap.size,0,none⟩ = some (.slice A b.parts.length c):=by rw [hw1];simp
 have c2 : w1.cell? ⟨w.heap.size,1,none⟩ = some (.bool b.rest):=by rw [hw1];simp
 obtain ⟨re,hre⟩ : ∃ re,reaches h n = re:=⟨_,rfl⟩
 have hcnt:=counts_v h n re HA hc w1 hre hlen
 rw [hm] at hcnt hlen
 have HC:=Lib.hid hc1
 have HM:=Lib.hid hm
 have HW:=Lib.hid hw1
 have HS:=Lib.hid hs1
 have HRe:=Lib.hid hre
 have HCells:=Lib.hid (And.intro c0 (And.intro c1 c2))
 have HH:=Lib.hid (hh.calm hc1)
 have HB:=Lib.hid (hb.calm hc1)
 rw [hm]
 clear hh hb hm hw1 hc1 hs1 c0 c1 c2 hre
 go_enter Tryz.func111,Tryz.ntmps111
 cases re with
 |false=>
  go_wp2_with (go_at_call 138;rw [← HW.out];refine hcnt.mono ?_;rintro e w2 ⟨rfl,hc2⟩)
  go_ret
  exact ⟨ret_bool (by rw [HRe.out];rfl),HC.out.trans hc2⟩
 |true=>
  go_wp2_with (go_at_call 138;rw [← HW.out];refine hcnt.mono ?_;rintro e w2 ⟨rfl,hc2⟩)
  have HC2:=Lib.hid hc2
  clear hcnt hc2
  go_loopw [2] (fun q wr=>∃ k : Nat,i ≤ k ∧ k ≤ max i n ∧ q = .int .i64 k ∧ Hid (∀ j,i ≤ j → j < k → j < n → j < m → inside (pAt b j) (pAt h j) = true) ∧ Hid (Calm w1 wr)) (fun q _=>max i n - (intOf q).toNat)
  case atStart=>exact ⟨i,Nat.le_refl _,by omega,rfl,fun j h1 h2=>absurd h2 (by omega),HC2.out⟩
  case round=>
   obtain ⟨k,hk1,hk2,rfl,HI,HCr⟩:=hrel
   have d0:=HCr.out.at_ HCells.out.1 (by rw [HS.out];omega)
   by_cases hkn : k < n
   ·by_cases hkm : k < m
    ·obtain ⟨bb,o,l,rfl,hbb,hl,hll,hcell⟩:=(HH.out.calm HCr.out).get (k:=k) (by rw [HM.out];exact hkm)
     have hpl : pAt h k = l:=by simp [pAt,List.getD_eq_getElem?_getD,hl]
     have hlo : partOk l = true:=by rw [← hpl];exact goodPat_at gh k
     have HP:=Lib.hid hpl
     have e0 : ∀ p : CalmTo wr,p.w.cell? ⟨w.heap.size + 1,0,none⟩ = some (.slice (some ⟨bb,o,none⟩) m hc):=fun p=>p.cell d0 (Nat.lt_of_lt_of_le (by rw [HS.out];omega) HCr.out.size)
     have e1 : ∀ p : CalmTo wr,p.w.cell? ⟨w.heap.size,0,none⟩ = some (.slice A b.parts.length c):=fun p=>p.cell (HCr.out.at_ HCells.out.2.1 (by rw [HS.out];omega)) (Nat.lt_of_lt_of_le (by rw [HS.out];omega) HCr.out.size)
     have e2 : ∀ p : CalmTo wr,p.w.cell? ⟨w.heap.size,1,none⟩ = some (.bool b.rest):=fun p=>p.cell (HCr.out.at_ HCells.out.2.2 (by rw [HS.out];omega)) (Nat.lt_of_lt_of_le (by rw [HS.out];omega) HCr.out.size)
     have e3 : ∀ p : CalmTo wr,p.w.cell? ⟨bb,o + k,none⟩ = some (.string (bs l)):=fun p=>p.cell hcell hbb
     have K1:=Lib.hid (fun p : CalmTo wr=>rpart_c b k A c p.w (by omega) (HB.out.calm (HCr.out.trans p.h)))
     have K2:=Lib.hid (fun p : CalmTo wr=>rinside_c (pAt b k) l p.w (pAt_len HB.out) hll (goodPat_at gb k) hlo)
     obtain ⟨r,hr⟩ : ∃ r,inside (pAt b k) l = r:=⟨_,rfl⟩
     rw [hr] at K2
     have HR:=Lib.hid hr
     clear hl hpl hcell hr hlo
     go_wp2_with fail
     refine wp_region_calm (by kernel_rfl) (by kernel_rfl) ?_
     repeat (go_big_quiet_step ((first | (go_at_call 139;exact calmOf (K1.out _)) | (go_at_call 72;exact calmOfL (K2.out _)))))
     refine wpQuiet_nil ?_
     intro w3 hcw3
     cases r with
     |true=>
      go_wp2
      go_roundw
      case rel=>
       refine ⟨k + 1,by omega,by omega,by go_num,fun j h1 h2 h3 h4=>?_,HCr.out.trans hcw3⟩
       by_cases e : j = k
       ·subst e
        rw [HP.out]
        exact HR.out
       ·exact HI.out j h1 (by omega) h3 h4
      case measure=>simp [intOf];omega
     |false=>
      go_wp2
      go_ret
      exact ⟨ret_bool (by rw [HRe.out,cover_no hk1 hkn (by rw [HM.out];exact hkm) (by rw [HP.out];exact HR.out)];rfl),HC.out.trans (HCr.out.trans hcw3)⟩
    ·have hv : Hid (covers h b i n = true):=covers_true.2 fun j h1 h2 h3=>HI.out j h1 (by rw [HM.out] at h3;omega) h2 (by rw [HM.out] at h3;exact h3)
     go_wp2
     go_ret
     exact ⟨ret_bool (by rw [HRe.out,hv.out];rfl),HC.out.trans HCr.out⟩
   ·have hv : Hid (covers h b i n = true):=covers_true.2 fun j h1 h2 h3=>HI.out j h1 (by omega) h2 (by rw [HM.out] at h3;exact h3)
    go_wp2
    go_ret
    exact ⟨ret_bool (by rw [HRe.out,hv.out];rfl),HC.out.trans HCr.out⟩

theorem rcovers_v (h b : Pat) (i n : Nat) (r : Bool) (HA : Option Addr) (hc : Nat) (A : Option Addr) (c : Nat) (w : World) (hv : (reaches h n && covers h b i n) = r) (hi : i ≤ 20000) (hn : n ≤ 20000) (hh : StrsR w HA h.parts) (hb : StrsR w A b.parts) (gh : goodPat h) (gb : goodPat b) :
  Calls Tryz.prog 111 #[.agg #[.slice A b.parts.length c,.bool b.rest],.agg #[.slice HA h.parts.length hc,.bool h.rest],.int .i64 i,.int .i64 n] w fun e w'=>e = .returned (.bool r) ∧ Calm w w':=hv ▸ rcovers_c h b i n HA hc A c w hi hn hh hb gh gb

set_option maxHeartbeats 1000000 in
theorem full_c (b : Pat) (hs : List Pat) (n : Nat) (A : Option Addr) (c : Nat) (HA : Option Addr) (hc : Nat) (w : World) (hn : n ≤ 20000) (hb : StrsR w A b.parts) (hh : PatsR w HA hs) (gb : goodPat b) (gh : ∀ h ∈ hs,goodPat h) :
  Calls Tryz.prog 78 #[.agg #[.slice A b.parts.length c,.bool b.rest,.slice HA hs.length hc],.int .i64 n] w fun e w'=>e = .returned (.bool (full b hs n)) ∧ Calm w w':=by
 have hlen:=hh.len
 obtain ⟨hn2,hhn⟩ : ∃ hn2,hs.length = hn2:=⟨_,rfl⟩
 rw [hhn] at hlen
 obtain ⟨w1,hw1⟩ : ∃ w1,w1 = w.alloc (.cells #[.slice A b.parts.length c,.bool b.rest,.slice HA hn2 hc] 68):=⟨_,rfl⟩
 have hc1 : Calm w w1:=by rw [hw1];exact (Calm.refl w).alloc _
 have hs1 : w.heap.size < w1.heap.size:=by rw [hw1];simp
 have k0 : w1.cell? ⟨w.heap.size,0,none⟩ = some (.slice A b.parts.length c):=by rw [hw1];simp
 have k1 : w1.cell? ⟨w.heap.size,1,none⟩ = some (.bool b.rest):=by rw [hw1];simp
 have k2 : w1.cell? ⟨w.heap.size,2,none⟩ = some (.slice HA hn2 hc):=by rw [hw1];simp
 have HW:=Lib.hid hw1
 have HC:=Lib.hid hc1
 have Hhn:=Lib.hid hhn
 have HK:=Lib.hid (And.intro hs1 (And.intro k0 (And.intro k1 k2)))
 have HB:=Lib.hid (hb.calm hc1)
 have HH:=Lib.hid (hh.calm hc1)
 have HG:=Lib.hid gh
 rw [hhn]
 clear hw1 hc1 hhn hs1 k0 k1 k2 hb hh gh
 go_enter Tryz.func78,Tryz.ntmps78
 go_wp2_with fail
 rw [← HW.out]
 go_loopw [10] (fun q wr=>∃ k : Nat,k ≤ hn2 ∧ q = .int .i64 k ∧ Hid (∀ j h,j < k → hs[j]? = some h → (reaches h n && covers h b 0 n) = false) ∧ Hid (Calm w1 wr)) (fun q _=>hn2 - (intOf q).toNat)
 case atStart=>exact ⟨0,Nat.zero_le _,rfl,fun j h hj=>absurd hj (Nat.not_lt_zero _),Calm.refl _⟩
 case round=>
  obtain ⟨k,hk,rfl,HI,HCr⟩:=hrel
  by_cases hlt : k < hn2
  ·obtain ⟨bb,o,p,Ak,ck,rfl,hbb,hpk,h1,h2,h3,h4,h5⟩:=(HH.out.calm HCr.out).get (k:=k) (by rw [Hhn.out];exact hlt)
   have l0:=HCr.out.at_ HK.out.2.1 HK.out.1
   have l1:=HCr.out.at_ HK.out.2.2.1 HK.out.1
   have ls : w.heap.size < wr.heap.size:=Nat.lt_of_lt_of_le HK.out.1 HCr.out.size
   have HPk:=Lib.hid hpk
   have H5:=Lib.hid h5
   have gp:=HG.out p (List.mem_of_getElem? hpk)
   obtain ⟨r,hr⟩ : ∃ r,(reaches p n && covers p b 0 n) = r:=⟨_,rfl⟩
   have HR:=Lib.hid hr
   clear hpk h5 hr
   cases r with
   |true=>
    go_wp2_with (go_at_call 111;refine (rcovers_v p b 0 n true _ _ _ _ _ HR.out (by omega) hn (H5.out.calm ((Calm.refl _).alloc _)) ((HB.out.calm HCr.out).calm ((Calm.refl _).alloc _)) gp gb).mono ?_;rintro e w3 ⟨rfl,hc3⟩)
    go_ret
    have hv : full b hs n = true:=List.any_eq_true.2 ⟨p,List.mem_of_getElem? HPk.out,HR.out⟩
    exact ⟨ret_bool hv.symm,HC.out.trans (HCr.out.trans (((Calm.refl _).alloc _).trans hc3))⟩
   |false=>
    go_wp2_with (go_at_call 111;refine (rcovers_v p b 0 n false _ _ _ _ _ HR.out (by omega) hn (H5.out.calm ((Calm.refl _).alloc _)) ((HB.out.calm HCr.out).calm ((Calm.refl _).alloc _)) gp gb).mono ?_;rintro e w3 ⟨rfl,hc3⟩)
    go_roundw
    case rel=>exact ⟨k + 1,by omega,by go_num,none_step (pr:=fun h=>reaches h n && covers h b 0 n) HPk.out HR.out HI.out,HCr.out.trans (((Calm.refl _).alloc _).trans hc3)⟩
    case measure=>simp [intOf];omega
  ·have hv : Hid (full b hs n = false):=by
    show full b hs n = false
    rw [full,List.any_eq_false]
    intro h hm
    obtain ⟨j,hj,e⟩:=List.mem_iff_getElem.1 hm
    rw [HI.out j h (by rw [Hhn.out] at hj;omega) (by rw [List.getElem?_eq_getElem hj,e])]
    simp
   go_wp2
   go_ret
   exact ⟨ret_bool hv.out.symm,HC.out.trans HCr.out⟩
theorem full_v (b : Pat) (hs : List Pat) (n : Nat) (r : Bool) (A : Option Addr) (c : Nat) (HA : Option Addr) (hc : Nat) (w : World) (hv : full b hs n = r) (hn : n ≤ 20000) (hb : StrsR w A b.parts) (hh : PatsR w HA hs) (gb : goodPat b) (gh : ∀ h ∈ hs,goodPat h) :
  Calls Tryz.prog 78 #[.agg #[.slice A b.parts.length c,.bool b.rest,.slice HA hs.length hc],.int .i64 n] w fun e w'=>e = .returned (.bool r) ∧ Calm w w':=hv ▸ full_c b hs n A c HA hc w hn hb hh gb gh

end Go.Proofs.YtnlnclefedohkaaGreatDoor
set_option linter.unusedVariables false
set_option linter.unusedSimpArgs false
namespace Go.Proofs.YtnlnclefedohkaaGreatDoor
open Go Go.RowKit Sy

set_option maxHeartbeats 2000000 in
theorem rlen_c (b : Pat) (hs : List Pat) (A : Option Addr) (c : Nat) (HA : Option Addr) (hc : Nat) (w : World) (hb : StrsR w A b.parts) (hh : PatsR w HA hs) (gb : goodPat b) (gh : ∀ h ∈ hs,goodPat h) :
  Calls Tryz.prog 42 #[.agg #[.slice A b.parts.length c,.bool b.rest,.slice HA hs.length hc]] w fun e w'=>e = .returned (.int .i64 (leastLen b hs)) ∧ Calm w w':=by
 have hlen:=hb.len
 have hhl:=hh.len
 have hls:=hh.lens
 have hbd:=lastTo_bound (b:=b) (hs:=hs) hlen hls
 obtain ⟨m,hm⟩ : ∃ m,b.parts.length = m:=⟨_,rfl⟩
 obtain ⟨hn,hhn⟩ : ∃ hn,hs.length = hn:=⟨_,rfl⟩
 obtain ⟨re,hre⟩ : ∃ re,b.rest = re:=⟨_,rfl⟩
 obtain ⟨w1,hw1⟩ : ∃ w1,w1 = w.alloc (.cells #[.slice A m c,.bool re,.slice HA hn hc] 68):=⟨_,rfl⟩
 have hc1 : Calm w w1:=by rw [hw1];exact (Calm.refl w).alloc _
 have hs1 : w.heap.size < w1.heap.size:=by rw [hw1];simp
 have k0 : w1.cell? ⟨w.heap.size,0,none⟩ = some (.slice A m c):=by rw [hw1];simp
 have k1 : w1.cell? ⟨w.heap.size,1,none⟩ = some (.bool re):=by rw [hw1];simp
 have k2 : w1.cell? ⟨w.heap.size,2,none⟩ = some (.slice HA hn hc):=by rw [hw1];simp
 have HFull : Hid (∀ (W : World),Calm w1 W → ∀ n r,n ≤ 20000 → full b hs n = r → Calls Tryz.prog 78 #[.agg #[.slice A m c,.bool re,.slice HA hn hc],.int .i64 (n : Nat)] W fun e w'=>e = .returned (.bool r) ∧ Calm W w'):=fun W hW n r hn hr=>by
  have:=full_v b hs n r A c HA hc W hr hn ((hb.calm hc1).calm hW) ((hh.calm hc1).calm hW) gb gh
  rw [hm,hre,hhn] at this
  exact this
 rw [hm] at hlen hbd
 rw [hhn] at hhl
 have HC:=Lib.hid hc1
 have HW:=Lib.hid hw1
 have HM:=Lib.hid hm
 have Hhn:=Lib.hid hhn
 have HRe:=Lib.hid hre
 have HK:=Lib.hid (And.intro hs1 (And.intro k0 (And.intro k1 k2)))
 have HH:=Lib.hid (hh.calm hc1)
 have HBd:=Lib.hid hbd
 rw [hm,hhn,hre]
 clear hb hh hm hhn hw1 hc1 hs1 k0 k1 k2 hls hbd hre gb gh
 go_enter Tryz.func42,Tryz.ntmps42
 cases re with
 |false=>
  obtain ⟨r,hr⟩ : ∃ r,full b hs m = r:=⟨_,rfl⟩
  have hv : Hid (leastLen b hs = if r then 0 else m):=by
   show leastLen b hs = _
   unfold leastLen firstLen lastLen
   rw [HRe.out,if_neg (by simp),if_neg (by simp),HM.out,show m + 1 - m = 1 by omega]
   cases r with
   |true=>rw [seek_go hr (by omega)];rfl
   |false=>rw [seek_stop hr (by omega)];rfl
  have hcall:=HFull.out w1 (Calm.refl _) m r (by omega) hr
  have l0:=HK.out.2.1
  have ls:=HK.out.1
  clear hr HFull
  cases r with
  |true=>
   go_wp2_with (go_at_call 78;rw [← HW.out];refine hcall.mono ?_;rintro e w2 ⟨rfl,hc2⟩)
   go_ret
   exact ⟨ret_int (by rw [hv.out];rfl),HC.out.trans hc2⟩
  |false=>
   go_wp2_with (go_at_call 78;rw [← HW.out];refine hcall.mono ?_;rintro e w2 ⟨rfl,hc2⟩;have l2:=hc2.at_ l0 ls)
   go_ret
   exact ⟨ret_int (by rw [hv.out];rfl),HC.out.trans hc2⟩
 |true=>
  go_wp2_with fail
  rw [← HW.out]
  go_loopw [3,28] (fun t q wr=>∃ k T : Nat,k ≤ hn ∧ q = .int .i64 k ∧ t = .int .i64 T ∧ T ≤ 16384 ∧ m ≤ T ∧ Hid (lastTo b hs k = T + 1) ∧ Hid (Calm w1 wr)) (fun _ q _=>hn - (intOf q).toNat)
  case atStart=>exact ⟨0,m,Nat.zero_le _,rfl,rfl,hlen,Nat.le_refl _,by show lastTo b hs 0 = m + 1;simp [lastTo,HM.out],Calm.refl _⟩
  case round=>
   obtain ⟨k,T,hk,rfl,rfl,hT1,hT2,HLT,HCr⟩:=hrel
   by_cases hlt : k < hn
   ·obtain ⟨bb,o,p,Ak,ck,rfl,_,hpk,h1,h2,h3,h4,h5⟩:=(HH.out.calm HCr.out).get (k:=k) (by rw [Hhn.out];exact hlt)
    have hpl:=h5.len
    have hst:=lastTo_succ (b:=b) hpk
    rw [HLT.out] at hst
    have HST:=Lib.hid hst
    clear hst h5 hpk
    go_wp2
    go_roundw
    case rel=>exact ⟨k + 1,max T p.parts.length,by omega,by go_num,congrArg (Value.int .i64) (by omega),by omega,by omega,(by show lastTo b hs (k + 1) = _;rw [HST.out];omega),HCr.out.alloc _⟩
    case measure=>simp [intOf];omega
   ·have hk2 : k = hs.length:=by rw [Hhn.out];omega
    have hle : Hid (leastLen b hs = seek b hs (m + 1) (T + 2 - (m + 1))):=by
     show leastLen b hs = _
     have hl2 : lastLen b hs = T + 1:=by
      have:=HLT.out
      rw [lastTo,hk2,List.take_length] at this
      rw [lastLen,if_pos HRe.out,this]
     have hf2 : firstLen b = m + 1:=by rw [firstLen,if_pos HRe.out,HM.out]
     rw [leastLen,hl2,hf2]
    have l0:=HCr.out.at_ HK.out.2.1 HK.out.1
    have ls : w.heap.size < wr.heap.size:=Nat.lt_of_lt_of_le HK.out.1 HCr.out.size
    clear HLT hk2
    have HCX:=HCr
    go_wp2_with fail
    go_loopw [6] (fun q wr=>∃ n : Nat,n ≤ T + 2 ∧ q = .int .i64 n ∧ Hid (leastLen b hs = seek b hs n (T + 2 - n)) ∧ Hid (Calm w1 wr)) (fun q _=>T + 2 - (intOf q).toNat)
    case atStart=>exact ⟨m + 1,by omega,by go_num,hle,HCX.out⟩
    case round=>
     obtain ⟨n,hn1,rfl,HSk,HCr2⟩:=hrel
     have l0:=HCr2.out.at_ HK.out.2.1 HK.out.1
     have l1:=HCr2.out.at_ HK.out.2.2.1 HK.out.1
     have l2:=HCr2.out.at_ HK.out.2.2.2 HK.out.1
     by_cases hnl : n ≤ T + 1
     ·obtain ⟨r,hr⟩ : ∃ r,full b hs n = r:=⟨_,rfl⟩
      have hcall:=HFull.out _ HCr2.out n r (by omega) hr
      have HR:=Lib.hid hr
      clear hr
      cases r with
      |true=>
       go_wp2_with (go_at_call 78;refine hcall.mono ?_;rintro e w3 ⟨rfl,hc3⟩)
       go_roundw
       case rel=>exact ⟨n + 1,by omega,by go_num,(by show leastLen b hs = _;rw [HSk.out,seek_go HR.out (by omega)];congr 1),HCr2.out.trans hc3⟩
       case measure=>simp [intOf];omega
      |false=>
       go_wp2_with (go_at_call 78;refine hcall.mono ?_;rintro e w3 ⟨rfl,hc3⟩)
       go_ret
       exact ⟨ret_int (by rw [HSk.out,seek_stop HR.out (by omega)]),HC.out.trans (HCr2.out.trans hc3)⟩
     ·have hz : Hid (leastLen b hs = 0):=by
       show leastLen b hs = 0
       rw [HSk.out,show T + 2 - n = 0 by omega]
       rfl
      clear HSk
      go_wp2
      go_ret
      exact ⟨ret_int (by rw [hz.out];rfl),HC.out.trans HCr2.out⟩
end Go.Proofs.YtnlnclefedohkaaGreatDoor
set_option linter.unusedVariables false
set_option linter.unusedSimpArgs false
namespace Go.Proofs.YtnlnclefedohkaaGreatDoor
open Go Go.RowKit Sy
structure RCom (w4 wx : World) (B10 : Nat) (v0 v1 : Value) (A8 : Option Addr) (N c8 : Nat) (hs : List Pat) : Prop where
 calm : Calm w4 wx
 box : RgB wx B10 v0 v1 (.slice A8 N c8)
 holes : PatsR wx A8 hs
theorem rcom_new {w4 w8 : World} {v0 v1 : Value} {A8 : Option Addr} {N c8 : Nat} {hs : List Pat} (hc : Calm w4 w8) (hr : PatsR w8 A8 hs) : RCom w4 (w8.alloc (.cells #[v0,v1,.slice A8 N c8] 68)) w8.heap.size v0 v1 A8 N c8 hs:=
 ⟨hc.alloc _,RgB.new w8 _ _ _,hr.calm ((Calm.refl w8).alloc _)⟩
theorem rcom_set {w4 w8 : World} {b : Nat} {z0 z1 z2 v0 v1 : Value} {A8 : Option Addr} {N c8 : Nat} {hs : List Pat} {l : List NewP} (hz : RgB w8 b z0 z1 z2) (h4 : w4.heap.size ≤ b) (hown : OwnX encP 2 40 w4 w8 (.slice A8 N c8) l) (he : ∀ x ∈ l,PatA w4 x.A x.c x.p) (hl : l.length ≤ 16384) (hm : l.map (·.p) = hs) :
  RCom w4 (((w8.setCell ⟨b,0,none⟩ v0).setCell ⟨b,1,none⟩ v1).setCell ⟨b,2,none⟩ (.slice A8 N c8)) b v0 v1 A8 N c8 hs:=by
 have hne:=hown.kindne (by decide) hz.kind
 have h3:=((hown.setX (p:=⟨b,0,none⟩) v0 h4 hne).setX (p:=⟨b,1,none⟩) v1 h4 hne).setX (p:=⟨b,2,none⟩) (.slice A8 N c8) h4 hne
 have hrd:=own_readsR h3 (fun z hz=>(he z hz).calm h3.calm) hl
 rw [hm] at hrd
 exact ⟨h3.calm,hz.set3 _ _ _,hrd⟩
theorem rlenp_v (b : Pat) (hs : List Pat) (v : Nat) (n m : Nat) (re : Bool) (A : Option Addr) (c : Nat) (HA : Option Addr) (hc : Nat) (w : World) (h : StrsR w A b.parts) (h2 : PatsR w HA hs) (hg : patErr b = 0) (hgs : ∀ p ∈ hs,patErr p = 0) (hv : leastLen b hs = v) (hn : b.parts.length = n) (hm : hs.length = m) (hre : b.rest = re) :
  Calls Tryz.prog 42 #[.agg #[.slice A n c,.bool re,.slice HA m hc]] w fun e w'=>e = .returned (.int .i64 v) ∧ Calm w w':=by
 have:=rlen_c b hs A c HA hc w h h2 (allOk_of hg) (fun p hp=>allOk_of (hgs p hp))
 subst hv hn hm hre
 exact this
set_option maxRecDepth 100000 in
set_option maxHeartbeats 8000000 in
theorem rcommon_c (x y : Reg) (v : Bool) (n m n' m' : Nat) (re re' : Bool) (A : Option Addr) (c : Nat) (HA : Option Addr) (hc : Nat) (A' : Option Addr) (c' : Nat) (HA' : Option Addr) (hc' : Nat) (w : World) (h : PatA w A c x.b) (hh : PatsR w HA x.hs) (h' : PatA w A' c' y.b) (hh' : PatsR w HA' y.hs) (gx : patErr x.b = 0) (gy : patErr y.b = 0) (gxh : ∀ p ∈ x.hs,patErr p = 0) (gyh : ∀ p ∈ y.hs,patErr p = 0) (hv : commonG x y = v)
  (hn : x.b.parts.length = n) (hm : x.hs.length = m) (hre : x.b.rest = re) (hn' : y.b.parts.length = n') (hm' : y.hs.length = m') (hre' : y.b.rest = re') (hl : m + m' ≤ 16384) :
  Calls Tryz.prog 61 #[.agg #[.slice A n c,.bool re,.slice HA m hc],.agg #[.slice A' n' c',.bool re',.slice HA' m' hc']] w fun e w'=>e = .returned (.bool v) ∧ Calm w w':=by
 obtain ⟨w1,hw1⟩ : ∃ w1,w1 = (w.alloc (.cells #[.slice A n c,.bool re,.slice HA m hc] 68)).alloc (.cells #[.slice A' n' c',.bool re',.slice HA' m' hc'] 68):=⟨_,rfl⟩
 have hc1 : Calm w w1:=by rw [hw1];exact ((Calm.refl w).alloc _).alloc _
 have hbox : CBox w1 w.heap.size A n c re HA m hc A' n' c' re' HA' m' hc':=by
  rw [hw1]
  exact ⟨by simp,by simp [go_sem],by simp [go_sem],by simp [go_sem],by simp [go_sem],by simp [go_sem],by simp [go_sem]⟩
 have HX:=Lib.hid (And.intro (h.calm hc1) (hh.calm hc1))
 have HY:=Lib.hid (And.intro (h'.calm hc1) (hh'.calm hc1))
 have HN:=Lib.hid (And.intro hn (And.intro hm hre))
 have HN':=Lib.hid (And.intro hn' (And.intro hm' hre'))
 have HW:=Lib.hid hw1
 have HC:=Lib.hid hc1
 have HB:=Lib.hid hbox
 have x0:=hbox.x0
 have x1:=hbox.x1
 have y0:=hbox.y0
 have y1:=hbox.y1
 clear hbox hc1 h hh h' hh' hn hm hre hn' hm' hre'
 unfold commonG at hv
 rcases hmt : meetP x.b y.b with _ | mm
 ·rw [hmt] at hv
  have hv2 : Hid (v = false):=hv.symm
  have KM : Hid (∀ W,Calm w1 W → Calls Tryz.prog 39 #[.agg #[.slice A n c,.bool re],.agg #[.slice A' n' c',.bool re']] W fun e w'=>e = .returned (.tuple #[.agg #[.slice none 0 0,.bool false],.bool false]) ∧ Calm W w'):=fun W hW=>by
   have:=rmeet_no x.b y.b A A' c c' W (HX.out.1.calm hW) (HY.out.1.calm hW) gx gy hmt
   rw [HN.out.1,HN.out.2.2,HN'.out.1,HN'.out.2.2] at this
   exact this
  clear gx gy gxh gyh hmt hv hw1
  go_enter Tryz.func61,Tryz.ntmps61
  rw [HW.out] at x0 x1 y0 y1
  go_wp2_with fail
  rw [← HW.out]
  refine (KM.out w1 (Calm.refl _)).mono ?_
  rintro e w3 ⟨rfl,hc3⟩
  go_wp2_with fail
  go_ret
  exact ⟨ret_bool hv2.out.symm,HC.out.trans (hc3.trans ((Calm.refl _).alloc _))⟩
 ·rw [hmt] at hv
  simp only at hv
  obtain ⟨vz,hvz⟩ : ∃ vz,leastLen mm (x.hs ++ y.hs) = vz:=⟨_,rfl⟩
  have hv2 : Hid (v = (vz != 0)):=by
   show _ = _
   rw [← hv,← hvz]
  obtain ⟨lx,hlx,hX⟩:=HX.out.2.places
  obtain ⟨ly,hly,hY⟩:=HY.out.2.places
  have elx : lx.length = m:=by rw [← HN.out.2.1,← hlx,List.length_map]
  have ely : ly.length = m':=by rw [← HN'.out.2.1,← hly,List.length_map]
  have HLx:=Lib.hid (And.intro elx (And.intro hlx hX))
  have HLy:=Lib.hid (And.intro ely (And.intro hly hY))
  obtain ⟨N,hN⟩ : ∃ N,(x.hs ++ y.hs).length = N:=⟨_,rfl⟩
  obtain ⟨gn,hgn⟩ : ∃ gn,mm.parts.length = gn:=⟨_,rfl⟩
  obtain ⟨gr,hgr⟩ : ∃ gr,mm.rest = gr:=⟨_,rfl⟩
  have KM : Hid (∀ W,Calm w1 W → Calls Tryz.prog 39 #[.agg #[.slice A n c,.bool re],.agg #[.slice A' n' c',.bool re']] W fun e w'=>(∃ A2 c2,e = .returned (.tuple #[.agg #[.slice A2 gn c2,.bool gr],.bool true]) ∧ SmallN w' W.heap.size ⟨A2,c2,mm⟩) ∧ Calm W w'):=fun W hW=>by
   have:=rmeet_yes x.b y.b mm A A' c c' W (HX.out.1.calm hW) (HY.out.1.calm hW) gx gy hmt
   rw [HN.out.1,HN.out.2.2,HN'.out.1,HN'.out.2.2,hgn,hgr] at this
   exact this
  have gmm:=(meetP_some hmt).2.2.2
  have KV : Hid (∀ A2 c2 AC cC W,PatA W A2 c2 mm → PatsR W AC (x.hs ++ y.hs) → Calls Tryz.prog 42 #[.agg #[.slice A2 gn c2,.bool gr,.slice AC N cC]] W fun e w'=>e = .returned (.int .i64 vz) ∧ Calm W w'):=fun A2 c2 AC cC W h1 h2=>
   rlenp_v mm (x.hs ++ y.hs) vz gn N gr A2 c2 AC cC W h1.r h2 gmm (fun p hp=>(List.mem_append.1 hp).elim (gxh p) (gyh p)) hvz hgn hN hgr
  have HNe : Hid (m + m' = N):=by
   show m + m' = N
   rw [← hN,List.length_append,HN.out.2.1,HN'.out.2.1]
  have HNN:=Lib.hid hN
  clear gx gy gxh gyh gmm hmt hv hw1 hvz hgn hgr hN hlx hX hly hY elx ely
  go_enter Tryz.func61,Tryz.ntmps61
  rw [HW.out] at x0 x1 y0 y1
  go_wp2_with fail
  rw [← HW.out]
  refine (KM.out w1 (Calm.refl _)).mono ?_
  rintro e w3 ⟨⟨A2,c2,rfl,hs3⟩,hc3⟩
  clear x0 x1 y0 y1
  go_upto_region 4 with (fail)
  obtain ⟨w4,hw4⟩ : ∃ w4,w4 = w3.alloc (.cells #[.slice A2 gn c2,.bool gr] 40):=⟨_,rfl⟩
  rw [← hw4]
  have hc4 : Calm w3 w4:=by rw [hw4];exact (Calm.refl w3).alloc _
  have t0 : w4.cell? ⟨w3.heap.size,0,none⟩ = some (.slice A2 gn c2):=by rw [hw4];simp [go_sem]
  have t1 : w4.cell? ⟨w3.heap.size,1,none⟩ = some (.bool gr):=by rw [hw4];simp [go_sem]
  have tlt : w3.heap.size < w4.heap.size:=by rw [hw4];simp [go_sem]
  have HC4:=Lib.hid (hc3.trans hc4)
  have HS4:=Lib.hid (hs3.calm hc4)
  have hBx:=HB.out.calm HC4.out
  have HSX : Hid (∀ W,Calm w4 W → W.cell? ⟨w3.heap.size,0,none⟩ = some (.slice A2 gn c2) ∧ W.cell? ⟨w3.heap.size,1,none⟩ = some (.bool gr) ∧ W.cell? ⟨w.heap.size,2,none⟩ = some (.slice HA m hc) ∧ W.cell? ⟨w.heap.size + 1,2,none⟩ = some (.slice HA' m' hc')):=fun W hW=>
   ⟨Calm.at_ hW t0 tlt,Calm.at_ hW t1 tlt,Calm.at_ hW hBx.x2 (by have:=hBx.size;omega),Calm.at_ hW hBx.y2 (by have:=hBx.size;omega)⟩
  clear hw4 hc3 hc4 hs3 t0 t1 tlt hBx KM
  go_cut [7] (fun s wx=>∃ B10 A8 c8,s = .pointer (some ⟨B10,0,none⟩) ∧ Hid (RCom w4 wx B10 (.slice A2 gn c2) (.bool gr) A8 N c8 (x.hs ++ y.hs)))
  case first=>
   go_region_held3 (fun W=>W.cell? ⟨w3.heap.size,0,none⟩ = some (.slice A2 gn c2) ∧ W.cell? ⟨w3.heap.size,1,none⟩ = some (.bool gr) ∧ W.cell? ⟨w.heap.size,2,none⟩ = some (.slice HA m hc) ∧ W.cell? ⟨w.heap.size + 1,2,none⟩ = some (.slice HA' m' hc'))
    (first
     |with_reducible exact HSX.out _ hcy
     |with_reducible exact HSX.out _ (hcy.alloc _)
     |with_reducible exact HSX.out _ hcx
     |with_reducible exact HSX.out _ (hcx.alloc _)
     |with_reducible exact HSX.out _ (calm3' hcy hcx.size _ _ _)
     |with_reducible exact HSX.out _ (calm3' hcy (Nat.le_refl _) _ _ _)
     |with_reducible exact HSX.out _ (Calm.refl _)
     |with_reducible exact HSX.out _ (Below.drew (Calm.refl _))
     |with_reducible exact HSX.out _ (Below.drew ((Calm.refl _).alloc _))
     |with_reducible exact HSX.out _ ((Calm.refl _).alloc _)
     |go_keep)
    (first
     |(refine step_append_ps rfl _ (.tmp 20) rfl w4 (.slice none 0 0) [] lx (by simp [Act.eval,Act.put]) (OwnX.nil (by first | exact Below.drew (Calm.refl _) | exact Below.drew ((Calm.refl _).alloc _))) HA m hc (by simp [Act.eval,Act.put]) HLx.out.1 (HLx.out.2.2.read.calm (HC4.out.trans (by first | exact Below.drew (Calm.refl _) | exact Below.drew ((Calm.refl _).alloc _)))) (by simp;omega) ?_;intro v6 w6 hown6 hgr6;rw [List.nil_append] at hown6;obtain ⟨A6,c6,hv6⟩:=hown6.len_shape;rw [HLx.out.1] at hv6;subst hv6;have hcx : Calm w4 w6:=hown6.calm;(first | have hZ6 : RgB w6 w4.heap.size (.slice none 0 0) (.bool false) (.slice none 0 0):=RgB.own (RgB.calm (RgB.new w4 _ _ _) (Below.drew (Calm.refl _))) (OwnX.nil (enc:=encP) (K:=2) (T:=40) (Below.drew ((Calm.refl w4).alloc _))) hgr6 | skip))
     |(refine step_append_ps rfl (.tmp 21) (.tmp 23) rfl w4 (.slice A6 m c6) lx ly (by simp [Act.eval,Act.put]) (hown6.to (by first | exact Calm.refl _ | exact (Calm.refl _).alloc _)) HA' m' hc' (by simp [Act.eval,Act.put]) HLy.out.1 (HLy.out.2.2.read.calm (HC4.out.trans (hcx.trans (by first | exact Calm.refl _ | exact (Calm.refl _).alloc _)))) (by rw [HLx.out.1];omega) ?_;intro v8 w8 hown8 hgr8;obtain ⟨A8,c8,hv8⟩:=hown8.len_shape;rw [List.length_append,HLx.out.1,HLy.out.1,HNe.out] at hv8;subst hv8;have hcy : Calm w4 w8:=hown8.calm;(first | have hZ8 : RgB w8 w6.heap.size (.slice none 0 0) (.bool false) (.slice none 0 0):=RgB.own (RgB.new w6 _ _ _) (hown6.to ((Calm.refl w6).alloc _)) hgr8 | have hZ8 : RgB w8 w4.heap.size (.slice none 0 0) (.bool false) (.slice none 0 0):=RgB.own hZ6 hown6 hgr8 | skip);try (have z0:=hZ8.c0;have z1:=hZ8.c1;have z2:=hZ8.c2;have f0:=hZ8.f 0;have f1:=hZ8.f 1;have f2:=hZ8.f 2)))
   all_goals
    have hEv : ∀ z ∈ lx ++ ly,PatA w4 z.A z.c z.p:=fun z hz=>by
     rcases List.mem_append.1 hz with h | h
     ·exact (HLx.out.2.2.each z h).calm HC4.out
     ·exact (HLy.out.2.2.each z h).calm HC4.out
    have hEl : (lx ++ ly).length ≤ 16384:=by rw [List.length_append,HLx.out.1,HLy.out.1];exact hl
    have hEm : (lx ++ ly).map (·.p) = x.hs ++ y.hs:=by rw [List.map_append,HLx.out.2.1,HLy.out.2.1]
    have hrd:=own_readsR hown8 (fun z hz=>(hEv z hz).calm hcy) hEl
    rw [hEm] at hrd
    have hs6:=hcx.size
    go_wp2_with fail
    go_meet
    case rel=>
     first
      |exact ⟨_,_,_,rfl,rcom_new hcy hrd⟩
      |exact ⟨_,_,_,rfl,rcom_set hZ8 (by omega) hown8 hEv hEl hEm⟩
  case rest=>
   obtain ⟨B10,A8,c8,rfl,HR⟩:=hcut
   have c0:=HR.out.box.c0
   have c1:=HR.out.box.c1
   have e2:=HR.out.box.c2
   by_cases hz : vz = 0
   ·subst hz
    have hv3 : Hid (v = false):=hv2.out
    go_wp2_with (go_at_call 42;refine (KV.out A2 c2 A8 c8 _ (HS4.out.calm HR.out.calm).a HR.out.holes).mono ?_;rintro e w7 ⟨rfl,hc7⟩)
    go_ret
    exact ⟨ret_bool hv3.out.symm,HC.out.trans (HC4.out.trans (HR.out.calm.trans hc7))⟩
   ·have hv3 : Hid (v = true):=by
     show v = true
     rw [hv2.out]
     simpa using hz
    have hpos : (0 : Int) < (vz : Int):=by omega
    go_wp2_with (go_at_call 42;refine (KV.out A2 c2 A8 c8 _ (HS4.out.calm HR.out.calm).a HR.out.holes).mono ?_;rintro e w7 ⟨rfl,hc7⟩)
    go_ret
    exact ⟨ret_bool (by rw [hv3.out];simpa using hpos),HC.out.trans (HC4.out.trans (HR.out.calm.trans hc7))⟩
end Go.Proofs.YtnlnclefedohkaaGreatDoor
