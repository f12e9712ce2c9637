/- Walks: the part of a pattern at a component. -/
import Derived.Test.YtdcdabbepnahnaaGreatDoorZWalkD
import Derived.Test.YtdcdabbepnahnaaGreatDoorZRowG
set_option linter.unusedVariables false
set_option linter.unusedSimpArgs false
namespace Go.Proofs.YtdcdabbepnahnaaGreatDoor
open Go Go.RowKit Sy
theorem pcheck_v (p:Pat) (v:Int) (A:Option Addr) (c:Nat) (w:World) (hv:patErr p=v) (hr:StrsR w A p.parts) (hnc:p.parts.length≤c) (hc47:c≤9223372036854775807):Calls Tryz.prog 110 #[.agg #[.slice A p.parts.length c,.bool p.rest]] w fun e w'=>e=.returned (.int .i64 v)∧Calm w w':=hv ▸ pcheck_c p A c w hr hnc hc47
theorem rcheck_v (p:Pat) (v:Int) (A:Option Addr) (c:Nat) (w:World) (hv:patErr p=v) (hr:StrsR w A p.parts) (hnc:p.parts.length≤c) (hc47:c≤9223372036854775807):Calls Tryz.prog 94 #[.agg #[.slice A p.parts.length c,.bool p.rest]] w fun e w'=>e=.returned (.int .i64 v)∧Calm w w':=hv ▸ rcheck_c p A c w hr hnc hc47
theorem good_holes {hs:List Pat} {k:Nat} {p:Pat} (hk:hs[k]?=some p) (hp:patErr p=0) (h:∀j h,j < k→hs[j]?=some h→patErr h=0):∀j h,j < k+1→hs[j]?=some h→patErr h=0:=fun j q hj hq=>by
 by_cases e:j=k
 ·subst e
  rw[hk] at hq
  cases hq
  exact hp
 ·exact h j q (by omega) hq
set_option maxHeartbeats 1000000 in
theorem gcheck_c (b:Pat) (hs:List Pat) (A:Option Addr) (c:Nat) (HA:Option Addr) (hc:Nat) (w:World) (hr:StrsR w A b.parts) (hnc:b.parts.length≤c) (hc47:c≤9223372036854775807) (hh:PatsR w HA hs) :
  Calls Tryz.prog 73 #[.agg #[.slice A b.parts.length c,.bool b.rest,.slice HA hs.length hc]] w fun e w'=>e=.returned (.int .i64 (regErr b hs))∧Calm w w':=by
 have hlen:=hh.len
 obtain⟨n,hn⟩:∃n,hs.length=n:=⟨_,rfl⟩
 have Hn:=Lib.hid hn
 rw[hn] at hlen
 rw[hn]
 obtain⟨pe,hpe⟩:∃pe,patErr b=pe:=⟨_,rfl⟩
 obtain⟨w1,hw1⟩:∃w1,w1=w.alloc (.cells #[.slice A b.parts.length c,.bool b.rest,.slice HA n hc] 67):=⟨_,rfl⟩
 have hc1:Calm w w1:=by rw[hw1];exact (Calm.refl w).alloc _
 have hbox:w1.cell? ⟨w.heap.size,2,none⟩=some (.slice HA n hc):=by rw[hw1];simp
 have hbs:w.heap.size < w1.heap.size:=by rw[hw1];simp
 have hcall:=pcheck_v b pe A c w1 hpe (hr.calm hc1) hnc hc47
 have HH:=Lib.hid (hh.calm hc1)
 have HC:=Lib.hid hc1
 have HP:=Lib.hid hpe
 have HW:=Lib.hid hw1
 have HB:=Lib.hid hbox
 have HBS:=Lib.hid hbs
 clear hn hr hh hpe hw1 hc1 hbox hbs
 go_enter Tryz.func73,Tryz.ntmps73
 by_cases hb0:pe=0
 ·subst hb0
  have HPB:Hid (patErr b=0):=HP.out
  go_wp2_with (go_at_call 110;rw[←HW.out];refine hcall.mono ?_;rintro e w2 ⟨rfl,hcw2⟩;have hbox2:w2.cell? ⟨w.heap.size,2,none⟩=some (.slice HA n hc):=(hcw2.cell (p:=⟨w.heap.size,2,none⟩) HBS.out).trans HB.out)
  have HC2:=Lib.hid hcw2
  clear hcall hcw2 hbox2
  go_loopw [12] (fun i wr=>∃k:Nat,k≤n∧i=.int .i64 k∧Hid (∀j h,j < k→hs[j]?=some h→patErr h=0)∧Hid (Calm w1 wr)) (fun i _=>n - (intOf i).toNat)
  case atStart=>exact⟨0,Nat.zero_le _,rfl,fun j h hj=>absurd hj (Nat.not_lt_zero _),HC2.out⟩
  case round=>
   obtain⟨k,hk,rfl,HG,HCr⟩:=hrel
   by_cases hlt:k < n
   ·obtain⟨bb,o,p,Ak,ck,rfl,_,hp,h1,h2,h3,h4,h5⟩:=(HH.out.calm HCr.out).get (k:=k) (by rw[Hn.out];exact hlt)
    have HP:=Lib.hid hp
    have H5:=Lib.hid h5
    obtain⟨v,hv⟩:∃v,patErr p=v:=⟨_,rfl⟩
    have HV:=Lib.hid hv
    clear hp h5 hv
    by_cases hv0:v=0
    ·subst hv0
     go_wp2_with (go_at_call 110;refine (pcheck_v _ _ _ _ _ HV.out (H5.out.calm (((Calm.refl _).alloc _))) h3 h4).mono ?_;rintro e w3 ⟨rfl,hcw3⟩)
     go_roundw
     case rel=>exact⟨k+1,by omega,by go_num,good_holes HP.out HV.out HG.out,HCr.out.trans (((Calm.refl _).alloc _).trans hcw3)⟩
     case measure=>simp[intOf];omega
    ·have hvb:(v != 0)=true:=by simpa using hv0
     have hE:Hid (regErr b hs=51):=regErr_hole HPB.out HP.out (by rw[HV.out];exact hv0)
     clear hv0
     go_wp2_with (go_at_call 110;refine (pcheck_v _ _ _ _ _ HV.out (H5.out.calm (((Calm.refl _).alloc _))) h3 h4).mono ?_;rintro e w3 ⟨rfl,hcw3⟩)
     go_ret
     exact⟨ret_int hE.out.symm,HC.out.trans (HCr.out.trans (((Calm.refl _).alloc _).trans hcw3))⟩
   ·have hbr:wr.cell? ⟨w.heap.size,2,none⟩=some (.slice HA n hc):=(HCr.out.cell (p:=⟨w.heap.size,2,none⟩) HBS.out).trans HB.out
    have hE:Hid (regErr b hs=if 64 < n then 52 else 0):=by
     show regErr b hs=_
     rw[regErr_end HPB.out (fun j h hj=>HG.out j h (by rw[Hn.out] at hj;omega)),Hn.out]
    by_cases h64:64 < n
    ·go_wp2
     go_ret
     exact⟨ret_int (by rw[hE.out,if_pos h64]),HC.out.trans HCr.out⟩
    ·go_wp2
     go_ret
     exact⟨ret_int (by rw[hE.out,if_neg h64]),HC.out.trans HCr.out⟩
 ·have hv:Hid (regErr b hs=50):=regErr_base (by rw[HP.out];exact hb0)
  have hbb:(pe != 0)=true:=by simpa using hb0
  clear hb0
  go_wp2_with (go_at_call 110;rw[←HW.out];refine hcall.mono ?_;rintro e w2 ⟨rfl,hcw2⟩)
  go_ret
  exact⟨ret_int hv.out.symm,HC.out.trans hcw2⟩
set_option maxHeartbeats 1000000 in
theorem rgcheck_c (b:Pat) (hs:List Pat) (A:Option Addr) (c:Nat) (HA:Option Addr) (hc:Nat) (w:World) (hr:StrsR w A b.parts) (hnc:b.parts.length≤c) (hc47:c≤9223372036854775807) (hh:PatsR w HA hs) :
  Calls Tryz.prog 101 #[.agg #[.slice A b.parts.length c,.bool b.rest,.slice HA hs.length hc]] w fun e w'=>e=.returned (.int .i64 (regErr b hs))∧Calm w w':=by
 have hlen:=hh.len
 obtain⟨n,hn⟩:∃n,hs.length=n:=⟨_,rfl⟩
 have Hn:=Lib.hid hn
 rw[hn] at hlen
 rw[hn]
 obtain⟨pe,hpe⟩:∃pe,patErr b=pe:=⟨_,rfl⟩
 obtain⟨w1,hw1⟩:∃w1,w1=w.alloc (.cells #[.slice A b.parts.length c,.bool b.rest,.slice HA n hc] 67):=⟨_,rfl⟩
 have hc1:Calm w w1:=by rw[hw1];exact (Calm.refl w).alloc _
 have hbox:w1.cell? ⟨w.heap.size,2,none⟩=some (.slice HA n hc):=by rw[hw1];simp
 have hbs:w.heap.size < w1.heap.size:=by rw[hw1];simp
 have hcall:=rcheck_v b pe A c w1 hpe (hr.calm hc1) hnc hc47
 have HH:=Lib.hid (hh.calm hc1)
 have HC:=Lib.hid hc1
 have HP:=Lib.hid hpe
 have HW:=Lib.hid hw1
 have HB:=Lib.hid hbox
 have HBS:=Lib.hid hbs
 clear hn hr hh hpe hw1 hc1 hbox hbs
 go_enter Tryz.func101,Tryz.ntmps101
 by_cases hb0:pe=0
 ·subst hb0
  have HPB:Hid (patErr b=0):=HP.out
  go_wp2_with (go_at_call 94;rw[←HW.out];refine hcall.mono ?_;rintro e w2 ⟨rfl,hcw2⟩;have hbox2:w2.cell? ⟨w.heap.size,2,none⟩=some (.slice HA n hc):=(hcw2.cell (p:=⟨w.heap.size,2,none⟩) HBS.out).trans HB.out)
  have HC2:=Lib.hid hcw2
  clear hcall hcw2 hbox2
  go_loopw [12] (fun i wr=>∃k:Nat,k≤n∧i=.int .i64 k∧Hid (∀j h,j < k→hs[j]?=some h→patErr h=0)∧Hid (Calm w1 wr)) (fun i _=>n - (intOf i).toNat)
  case atStart=>exact⟨0,Nat.zero_le _,rfl,fun j h hj=>absurd hj (Nat.not_lt_zero _),HC2.out⟩
  case round=>
   obtain⟨k,hk,rfl,HG,HCr⟩:=hrel
   by_cases hlt:k < n
   ·obtain⟨bb,o,p,Ak,ck,rfl,_,hp,h1,h2,h3,h4,h5⟩:=(HH.out.calm HCr.out).get (k:=k) (by rw[Hn.out];exact hlt)
    have HP:=Lib.hid hp
    have H5:=Lib.hid h5
    obtain⟨v,hv⟩:∃v,patErr p=v:=⟨_,rfl⟩
    have HV:=Lib.hid hv
    clear hp h5 hv
    by_cases hv0:v=0
    ·subst hv0
     go_wp2_with (go_at_call 94;refine (rcheck_v _ _ _ _ _ HV.out (H5.out.calm (((Calm.refl _).alloc _))) h3 h4).mono ?_;rintro e w3 ⟨rfl,hcw3⟩)
     go_roundw
     case rel=>exact⟨k+1,by omega,by go_num,good_holes HP.out HV.out HG.out,HCr.out.trans (((Calm.refl _).alloc _).trans hcw3)⟩
     case measure=>simp[intOf];omega
    ·have hvb:(v != 0)=true:=by simpa using hv0
     have hE:Hid (regErr b hs=51):=regErr_hole HPB.out HP.out (by rw[HV.out];exact hv0)
     clear hv0
     go_wp2_with (go_at_call 94;refine (rcheck_v _ _ _ _ _ HV.out (H5.out.calm (((Calm.refl _).alloc _))) h3 h4).mono ?_;rintro e w3 ⟨rfl,hcw3⟩)
     go_ret
     exact⟨ret_int hE.out.symm,HC.out.trans (HCr.out.trans (((Calm.refl _).alloc _).trans hcw3))⟩
   ·have hbr:wr.cell? ⟨w.heap.size,2,none⟩=some (.slice HA n hc):=(HCr.out.cell (p:=⟨w.heap.size,2,none⟩) HBS.out).trans HB.out
    have hE:Hid (regErr b hs=if 64 < n then 52 else 0):=by
     show regErr b hs=_
     rw[regErr_end HPB.out (fun j h hj=>HG.out j h (by rw[Hn.out] at hj;omega)),Hn.out]
    by_cases h64:64 < n
    ·go_wp2
     go_ret
     exact⟨ret_int (by rw[hE.out,if_pos h64]),HC.out.trans HCr.out⟩
    ·go_wp2
     go_ret
     exact⟨ret_int (by rw[hE.out,if_neg h64]),HC.out.trans HCr.out⟩
 ·have hv:Hid (regErr b hs=50):=regErr_base (by rw[HP.out];exact hb0)
  have hbb:(pe != 0)=true:=by simpa using hb0
  clear hb0
  go_wp2_with (go_at_call 94;rw[←HW.out];refine hcall.mono ?_;rintro e w2 ⟨rfl,hcw2⟩)
  go_ret
  exact⟨ret_int hv.out.symm,HC.out.trans hcw2⟩
set_option maxHeartbeats 400000 in
theorem partAt_c (p:Pat) (i:Nat) (A:Option Addr) (c:Nat) (w:World) (hi:i≤20000) (hr:StrsR w A p.parts):Calls Tryz.prog 177 #[.agg #[.slice A p.parts.length c,.bool p.rest],.int .i64 i] w fun e w'=>e=.returned (.string (bs (pAt p i)))∧Calm w w':=by
 have hlen:=hr.len
 obtain⟨n,hn⟩:∃n,p.parts.length=n:=⟨_,rfl⟩
 have Hn:=Lib.hid hn
 rw[hn] at hlen
 rw[hn]
 by_cases hlt:i < n
 ·obtain⟨b,o,l,rfl,hb,hl,hll,hcell⟩:=(hr.calm ((Calm.refl w).alloc (.cells #[.slice A n c,.bool p.rest] 51))).get (k:=i) (by rw[hn];exact hlt)
  have hv:pAt p i=l:=by simp[pAt,List.getD_eq_getElem?_getD,hl]
  rw[hv]
  clear hv hl hr hn
  go_enter Tryz.func177,Tryz.ntmps177
  go_wp2
  go_ret
  exact⟨rfl,(Calm.refl w).alloc _⟩
 ·have hv:pAt p i=[42]:=pAt_out (by omega)
  rw[hv]
  clear hv hr hn
  go_enter Tryz.func177,Tryz.ntmps177
  go_wp2
  go_ret
  exact⟨rfl,(Calm.refl w).alloc _⟩
end Go.Proofs.YtdcdabbepnahnaaGreatDoor
