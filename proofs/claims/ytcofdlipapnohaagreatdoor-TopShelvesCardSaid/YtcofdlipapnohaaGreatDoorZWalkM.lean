/- Walks: the least component that is allowed. -/
import Derived.Deep.LoopGhost
import Derived.Shelf.Spec.TrailingZeros
import Derived.Test.YtcofdlipapnohaaGreatDoorProg
import Derived.Laws.BitsAllLaws
import Derived.Laws.Bits64b
import Derived.Test.YtcofdlipapnohaaGreatDoorZCheckG
import Derived.Test.YtcofdlipapnohaaGreatDoorZMeetP
import Derived.Test.YtcofdlipapnohaaGreatDoorZNewS
import Derived.Test.YtcofdlipapnohaaGreatDoorZWalkA
set_option linter.unusedVariables false
set_option linter.unusedSimpArgs false
namespace Go.Proofs.YtcofdlipapnohaaGreatDoor
open Go Go.RowKit Sy
theorem pcheck_v (p:Pat) (v:Int) (A:Option Addr) (c:Nat) (w:World) (hv:patErr p=v) (hr:StrsR w A p.parts) (hnc:p.parts.length≤c) (hc47:c≤9223372036854775807):Calls Tryz.prog 197 #[.agg #[.slice A p.parts.length c,.bool p.rest]] w fun e w'=>e=.returned (.int .i64 v)∧Calm w w':=hv ▸ pcheck_c p A c w hr hnc hc47
theorem good_holes {hs:List Pat} {k:Nat} {p:Pat} (hk:hs[k]?=some p) (hp:patErr p=0) (h:∀j h,j < k→hs[j]?=some h→patErr h=0):∀j h,j < k+1→hs[j]?=some h→patErr h=0:=fun j q hj hq=>by
 by_cases e:j=k
 ·subst e
  rw[hk] at hq
  cases hq
  exact hp
 ·exact h j q (by omega) hq
set_option maxHeartbeats 400000 in
theorem partAt_c (p:Pat) (i:Nat) (A:Option Addr) (c:Nat) (w:World) (hi:i≤20000) (hr:StrsR w A p.parts):Calls Tryz.prog 262 #[.agg #[.slice A p.parts.length c,.bool p.rest],.int .i64 i] w fun e w'=>e=.returned (.string (bs (pAt p i)))∧Calm w w':=by
 have hlen:=hr.len
 obtain⟨n,hn⟩:∃n,p.parts.length=n:=⟨_,rfl⟩
 have Hn:=Lib.hid hn
 rw[hn] at hlen
 rw[hn]
 by_cases hlt:i < n
 ·obtain⟨b,o,l,rfl,hb,hl,hll,hcell⟩:=(hr.calm ((Calm.refl w).alloc (.cells #[.slice A n c,.bool p.rest] 65))).get (k:=i) (by rw[hn];exact hlt)
  have hv:pAt p i=l:=by simp[pAt,List.getD_eq_getElem?_getD,hl]
  rw[hv]
  clear hv hl hr hn
  go_enter Tryz.func262,Tryz.ntmps262
  go_wp2
  go_ret
  exact⟨rfl,(Calm.refl w).alloc _⟩
 ·have hv:pAt p i=[42]:=pAt_out (by omega)
  rw[hv]
  clear hv hr hn
  go_enter Tryz.func262,Tryz.ntmps262
  go_wp2
  go_ret
  exact⟨rfl,(Calm.refl w).alloc _⟩
theorem cover_no {h b:Pat} {i n j:Nat} (h1:i≤j) (h2:j < n) (h3:j < h.parts.length) (hf:inside (pAt b j) (pAt h j)=false):covers h b i n=false:=by
 rcases hc:covers h b i n with _ | _
 ·rfl
 ·rw[covers_true.1 hc j h1 h2 h3] at hf
  cases hf
set_option maxHeartbeats 400000 in
theorem reaches_c (p:Pat) (n:Nat) (A:Option Addr) (c:Nat) (w:World) (hlen:p.parts.length≤16384):Calls Tryz.prog 240 #[.agg #[.slice A p.parts.length c,.bool p.rest],.int .i64 n] w fun e w'=>e=.returned (.bool (reaches p n))∧Calm w w':=by
 obtain⟨m,hm⟩:∃m,p.parts.length=m:=⟨_,rfl⟩
 rw[hm] at hlen ⊢
 cases hr:p.rest with
 |true=>
  have hv:reaches p n=decide (m < n):=by simp[reaches,hr,hm]
  rw[hv]
  clear hv hr hm
  by_cases hlt:m < n
  ·have h1:((n:Int) == (m:Int))=false:=by simp;omega
   go_enter Tryz.func240,Tryz.ntmps240
   go_wp2
   go_ret
   exact⟨ret_bool (by simp[hlt]),(Calm.refl w).alloc _⟩
  ·go_enter Tryz.func240,Tryz.ntmps240
   by_cases he:n=m
   ·have h1:((n:Int) == (m:Int))=true:=by simp;omega
    clear he
    go_wp2
    go_ret
    exact⟨ret_bool (by simp[hlt]),(Calm.refl w).alloc _⟩
   ·have h1:((n:Int) == (m:Int))=false:=by simp;omega
    clear he
    go_wp2
    go_ret
    exact⟨ret_bool (by simp[hlt]),(Calm.refl w).alloc _⟩
 |false=>
  have hv:reaches p n=(n == m):=by simp[reaches,hr,hm]
  rw[hv]
  clear hv hr hm
  go_enter Tryz.func240,Tryz.ntmps240
  by_cases he:n=m
  ·have h1:((n:Int) == (m:Int))=true:=by simp;omega
   have h2:=Lib.hid he
   clear he
   go_wp2
   go_ret
   exact⟨ret_bool (by simp[h2.out]),(Calm.refl w).alloc _⟩
  ·have h1:((n:Int) == (m:Int))=false:=by simp;omega
   have h2:=Lib.hid he
   clear he
   by_cases hlt:m < n
   all_goals
    go_wp2
    go_ret
    exact⟨ret_bool (by have:=h2.out;simp[this]),(Calm.refl w).alloc _⟩
set_option maxHeartbeats 1000000 in
theorem covers_c (h b:Pat) (i n:Nat) (HA:Option Addr) (hc:Nat) (A:Option Addr) (c:Nat) (w:World) (hi:i≤20000) (hn:n≤20000) (hh:StrsR w HA h.parts) (hb:StrsR w A b.parts) :
  Calls Tryz.prog 241 #[.agg #[.slice HA h.parts.length hc,.bool h.rest],.agg #[.slice A b.parts.length c,.bool b.rest],.int .i64 i,.int .i64 n] w fun e w'=>e=.returned (.bool (covers h b i n))∧Calm w w':=by
 have hlen:=hh.len
 obtain⟨m,hm⟩:∃m,h.parts.length=m:=⟨_,rfl⟩
 rw[hm] at hlen
 obtain⟨w1,hw1⟩:∃w1,w1=(w.alloc (.cells #[.slice HA m hc,.bool h.rest] 65)).alloc (.cells #[.slice A b.parts.length c,.bool b.rest] 65):=⟨_,rfl⟩
 have hc1:Calm w w1:=by rw[hw1];exact ((Calm.refl w).alloc _).alloc _
 have hs1:w1.heap.size=w.heap.size+2:=by rw[hw1];simp
 have c0:w1.cell? ⟨w.heap.size,0,none⟩=some (.slice HA m hc):=by rw[hw1];simp
 have c1:w1.cell? ⟨w.heap.size+1,0,none⟩=some (.slice A b.parts.length c):=by rw[hw1];simp
 have c2:w1.cell? ⟨w.heap.size+1,1,none⟩=some (.bool b.rest):=by rw[hw1];simp
 have HC:=Lib.hid hc1
 have HM:=Lib.hid hm
 have HW:=Lib.hid hw1
 have HS:=Lib.hid hs1
 have HCells:=Lib.hid (And.intro c0 (And.intro c1 c2))
 have HH:=Lib.hid (hh.calm hc1)
 have HB:=Lib.hid (hb.calm hc1)
 rw[hm]
 clear hh hb hm hw1 hc1 hs1 c0 c1 c2
 go_enter Tryz.func241,Tryz.ntmps241
 go_wp2_with fail
 rw[←HW.out]
 go_loopw [9] (fun q wr=>∃k:Nat,i≤k∧k≤max i n∧q=.int .i64 k∧Hid (∀j,i≤j→j < k→j < n→j < m→inside (pAt b j) (pAt h j)=true)∧Hid (Calm w1 wr)) (fun q _=>max i n - (intOf q).toNat)
 case atStart=>exact⟨i,Nat.le_refl _,by omega,rfl,fun j h1 h2=>absurd h2 (by omega),Calm.refl _⟩
 case round=>
  obtain⟨k,hk1,hk2,rfl,HI,HCr⟩:=hrel
  have d0:=HCr.out.at_ HCells.out.1 (by rw[HS.out];omega)
  by_cases hkn:k < n
  ·by_cases hkm:k < m
   ·obtain⟨bb,o,l,rfl,hbb,hl,hll,hcell⟩:=(HH.out.calm HCr.out).get (k:=k) (by rw[HM.out];exact hkm)
    have hpl:pAt h k=l:=by simp[pAt,List.getD_eq_getElem?_getD,hl]
    have HP:=Lib.hid hpl
    have e0:∀p:CalmTo wr,p.w.cell? ⟨w.heap.size,0,none⟩=some (.slice (some ⟨bb,o,none⟩) m hc):=fun p=>p.cell d0 (Nat.lt_of_lt_of_le (by rw[HS.out];omega) HCr.out.size)
    have e1:∀p:CalmTo wr,p.w.cell? ⟨w.heap.size+1,0,none⟩=some (.slice A b.parts.length c):=fun p=>p.cell (HCr.out.at_ HCells.out.2.1 (by rw[HS.out];omega)) (Nat.lt_of_lt_of_le (by rw[HS.out];omega) HCr.out.size)
    have e2:∀p:CalmTo wr,p.w.cell? ⟨w.heap.size+1,1,none⟩=some (.bool b.rest):=fun p=>p.cell (HCr.out.at_ HCells.out.2.2 (by rw[HS.out];omega)) (Nat.lt_of_lt_of_le (by rw[HS.out];omega) HCr.out.size)
    have e3:∀p:CalmTo wr,p.w.cell? ⟨bb,o+k,none⟩=some (.string (bs l)):=fun p=>p.cell hcell hbb
    have K1:=Lib.hid (fun p:CalmTo wr=>partAt_c b k A c p.w (by omega) (HB.out.calm (HCr.out.trans p.h)))
    have hpbl:(pAt b k).length≤16384:=by
     rcases Nat.lt_or_ge k b.parts.length with hkb | hkb
     ·have:pAt b k=b.parts[k]:=by simp[pAt,List.getD_eq_getElem?_getD,List.getElem?_eq_getElem hkb]
      rw[this];exact HB.out.each _ (List.getElem_mem hkb)
     ·rw[pAt_out hkb];simp
    have K2:=Lib.hid (fun p:CalmTo wr=>pwith_c (pAt b k) l p.w hpbl hll)
    obtain⟨r,hr⟩:∃r,inside (pAt b k) l=r:=⟨_,rfl⟩
    rw[hr] at K2
    have HR:=Lib.hid hr
    clear hl hpl hcell hr
    go_wp2_with fail
    refine wp_region_calm (by kernel_rfl) (by kernel_rfl) ?_
    repeat (go_big_quiet_step ((first | (go_at_call 262;exact calmOf (K1.out _)) | (go_at_call 233;exact calmOf (K2.out _)))))
    refine wpQuiet_nil ?_
    intro w2 hcw2
    cases r with
    |true=>
     go_wp2
     go_roundw
     case rel=>
      refine⟨k+1,by omega,by omega,by go_num,fun j h1 h2 h3 h4=>?_,HCr.out.trans hcw2⟩
      by_cases e:j=k
      ·subst e
       rw[HP.out]
       exact HR.out
      ·exact HI.out j h1 (by omega) h3 h4
     case measure=>simp[intOf];omega
    |false=>
     go_wp2
     go_ret
     exact⟨ret_bool (cover_no hk1 hkn (by rw[HM.out];exact hkm) (by rw[HP.out];exact HR.out)).symm,HC.out.trans (HCr.out.trans hcw2)⟩
   ·have hv:Hid (covers h b i n=true):=covers_true.2 fun j h1 h2 h3=>HI.out j h1 (by rw[HM.out] at h3;omega) h2 (by rw[HM.out] at h3;exact h3)
    go_wp2
    go_ret
    exact⟨ret_bool hv.out.symm,HC.out.trans HCr.out⟩
  ·have hv:Hid (covers h b i n=true):=covers_true.2 fun j h1 h2 h3=>HI.out j h1 (by omega) h2 (by rw[HM.out] at h3;exact h3)
   go_wp2
   go_ret
   exact⟨ret_bool hv.out.symm,HC.out.trans HCr.out⟩
def ixOf {α:Type} (pr:α→Bool) (ps:List α):Int:=if ps.any pr then (ps.findIdx pr:Int) else -1
theorem ixOf_hit {α:Type} {pr:α→Bool} {ps:List α} {k:Nat} {p:α} (hk:ps[k]?=some p) (hp:pr p=true) (hall:∀j q,j < k→ps[j]?=some q→pr q=false):ixOf pr ps=k:=by
 obtain⟨hlt,he⟩:=List.getElem?_eq_some_iff.1 hk
 have h1:ps.any pr=true:=List.any_eq_true.2 ⟨p,List.mem_of_getElem? hk,hp⟩
 have h2:ps.findIdx pr=k:=(List.findIdx_eq hlt).2 ⟨by rw[he];exact hp,fun j hj=>hall j _ hj (List.getElem?_eq_getElem (by omega))⟩
 rw[ixOf,if_pos h1,h2]
theorem ixOf_miss {α:Type} {pr:α→Bool} {ps:List α} (hall:∀j q,j < ps.length→ps[j]?=some q→pr q=false):ixOf pr ps=-1:=by
 have h1:ps.any pr=false:=by
  rw[List.any_eq_false]
  intro q hq
  obtain⟨j,hj,e⟩:=List.mem_iff_getElem.1 hq
  simp[hall j q hj (by rw[List.getElem?_eq_getElem hj,e])]
 rw[ixOf,h1]
 rfl
theorem ixOf_any {α:Type} (pr:α→Bool) (ps:List α):decide (0≤ixOf pr ps)=ps.any pr:=by
 unfold ixOf
 cases ps.any pr <;> simp
theorem none_step {α:Type} {pr:α→Bool} {ps:List α} {k:Nat} {p:α} (hk:ps[k]?=some p) (hp:pr p=false) (h:∀j q,j < k→ps[j]?=some q→pr q=false):∀j q,j < k+1→ps[j]?=some q→pr q=false:=fun j q hj hq=>by
 by_cases e:j=k
 ·subst e
  rw[hk] at hq
  cases hq
  exact hp
 ·exact h j q (by omega) hq
def PredP (g:Nat) (lb:Array Value) (pr:Pat→Bool) (w:World):Prop:=
 ∀(W:World),Calm w W→∀(p:Pat) (A:Option Addr) (c:Nat),StrsR W A p.parts→p.parts.length≤c→c≤9223372036854775807→Calls Tryz.prog g (#[.agg #[.slice A p.parts.length c,.bool p.rest]]++lb) W fun e w'=>e=.returned (.bool (pr p))∧Calm W w'
set_option maxHeartbeats 1000000 in
theorem pidx_c (g:Nat) (lb:Array Value) (eg:∀args w,(callFunc g args).run Tryz.prog w=.ok (.enter g args) w) (pr:Pat→Bool) (ps:List Pat) (A:Option Addr) (c:Nat) (w:World) (hr:PatsR w A ps) (hp:PredP g lb pr w) :
  Calls Tryz.prog 217 #[.slice A ps.length c,.func (.func g) #[] lb] w fun e w'=>e=.returned (.int .i64 (ixOf pr ps))∧Calm w w':=by
 have hlen:=hr.len
 obtain⟨n,hn⟩:∃n,ps.length=n:=⟨_,rfl⟩
 have Hn:=Lib.hid hn
 have HR:=Lib.hid hr
 have HP:=Lib.hid hp
 rw[hn] at hlen
 rw[hn]
 clear hn hr hp
 go_enter Tryz.func217,Tryz.ntmps217
 go_wp2_with fail
 go_loopw [8] (fun i wr=>∃k:Nat,k≤n∧i=.int .i64 k∧Hid (∀j q,j < k→ps[j]?=some q→pr q=false)∧Hid (Calm w wr)) (fun i _=>n - (intOf i).toNat)
 case atStart=>exact⟨0,Nat.zero_le _,rfl,fun j q hj=>absurd hj (Nat.not_lt_zero _),Calm.refl _⟩
 case round=>
  obtain⟨k,hk,rfl,HI,HC⟩:=hrel
  by_cases hlt:k < n
  ·obtain⟨b,o,p,Ak,ck,rfl,_,hpk,h1,h2,h3,h4,h5⟩:=(HR.out.calm HC.out).get (k:=k) (by rw[Hn.out];exact hlt)
   have HK:=Lib.hid hpk
   have hcall:=HP.out wr HC.out p Ak ck h5 h3 h4
   obtain⟨r,hr⟩:∃r,pr p=r:=⟨_,rfl⟩
   rw[hr] at hcall
   have HPr:=Lib.hid hr
   clear hpk h5 hr
   cases r with
   |true=>
    go_wp2_with (go_at_fn g;refine hcall.mono ?_;rintro e w' ⟨rfl,hb'⟩)
    go_ret
    exact⟨ret_int (ixOf_hit HK.out HPr.out HI.out).symm,HC.out.trans hb'⟩
   |false=>
    go_wp2_with (go_at_fn g;refine hcall.mono ?_;rintro e w' ⟨rfl,hb'⟩)
    go_roundw
    case rel=>exact⟨k+1,by omega,by go_num,none_step HK.out HPr.out HI.out,HC.out.trans hb'⟩
    case measure=>simp[intOf];omega
  ·have hv:Hid (ixOf pr ps=-1):=ixOf_miss fun j q hj hq=>HI.out j q (by rw[Hn.out] at hj;omega) hq
   go_wp2
   go_ret
   exact⟨ret_int hv.out.symm,HC.out⟩
set_option maxHeartbeats 400000 in
theorem pany_c (g:Nat) (lb:Array Value) (eg:∀args w,(callFunc g args).run Tryz.prog w=.ok (.enter g args) w) (pr:Pat→Bool) (ps:List Pat) (A:Option Addr) (c:Nat) (w:World) (hr:PatsR w A ps) (hp:PredP g lb pr w) :
  Calls Tryz.prog 181 #[.slice A ps.length c,.func (.func g) #[] lb] w fun e w'=>e=.returned (.bool (ps.any pr))∧Calm w w':=by
 have h:=pidx_c g lb eg pr ps A c w hr hp
 have e:=ixOf_any pr ps
 rw[←e]
 clear hr hp eg e
 generalize ixOf pr ps=r at h ⊢
 go_enter Tryz.func181,Tryz.ntmps181
 go_wp2_with (go_at_call 217;refine h.mono ?_;rintro e w' ⟨rfl,hb'⟩)
 go_ret
 exact⟨rfl,hb'⟩
theorem reaches_v (p:Pat) (n:Nat) (r:Bool) (A:Option Addr) (c:Nat) (w:World) (hv:reaches p n=r) (hlen:p.parts.length≤16384):Calls Tryz.prog 240 #[.agg #[.slice A p.parts.length c,.bool p.rest],.int .i64 n] w fun e w'=>e=.returned (.bool r)∧Calm w w':=hv ▸ reaches_c p n A c w hlen
set_option maxHeartbeats 1000000 in
theorem lcl_pred (b:Pat) (n:Nat) (A:Option Addr) (c:Nat) (w:World) (Bn Bb:Nat) (hn:n≤20000) (hBn:Bn < w.heap.size) (hBb:Bb < w.heap.size) (cn:w.cell? ⟨Bn,0,none⟩=some (.int .i64 n))
  (cb0:w.cell? ⟨Bb,0,none⟩=some (.slice A b.parts.length c)) (cb1:w.cell? ⟨Bb,1,none⟩=some (.bool b.rest)) (hb:StrsR w A b.parts) :
  PredP 239 #[.pointer (some ⟨Bn,0,none⟩),.pointer (some ⟨Bb,0,none⟩)] (fun h=>reaches h n && covers h b 0 n) w:=by
 intro W hW h Ah ch hh hhc hhc47
 show Calls Tryz.prog 239 #[.agg #[.slice Ah h.parts.length ch,.bool h.rest],.pointer (some ⟨Bn,0,none⟩),.pointer (some ⟨Bb,0,none⟩)] W _
 have dn:=hW.at_ cn hBn
 have d0:=hW.at_ cb0 hBb
 have d1:=hW.at_ cb1 hBb
 have hne1:Bn≠W.heap.size:=by have:=hW.size;omega
 have hne2:Bb≠W.heap.size:=by have:=hW.size;omega
 have HBn:Bn < W.heap.size:=Nat.lt_of_lt_of_le hBn hW.size
 have HBb:Bb < W.heap.size:=Nat.lt_of_lt_of_le hBb hW.size
 have HH:=Lib.hid hh
 have HB:=Lib.hid (hb.calm hW)
 have hlen:=hh.len
 clear hW cn cb0 cb1 hb hh hBn hBb
 rcases hr:reaches h n with _ | _
 ·go_enter Tryz.func239,Tryz.ntmps239
  go_wp2_with (go_at_call 240;refine (reaches_v _ _ _ _ _ _ hr hlen).mono ?_;rintro e w2 ⟨rfl,hc2⟩)
  go_ret
  exact⟨ret_bool (by simp[hr]),((Calm.refl W).alloc _).trans hc2⟩
 ·obtain⟨W1,hW1⟩:∃W1,W1=W.alloc (.cells #[.slice Ah h.parts.length ch,.bool h.rest] 65):=⟨_,rfl⟩
  have hc1:Calm W W1:=by rw[hW1];exact (Calm.refl W).alloc _
  have hs1:W.heap.size < W1.heap.size:=by rw[hW1];simp
  have k0:W1.cell? ⟨W.heap.size,0,none⟩=some (.slice Ah h.parts.length ch):=by rw[hW1];simp
  have k1:W1.cell? ⟨W.heap.size,1,none⟩=some (.bool h.rest):=by rw[hW1];simp
  have hcall:=reaches_v h n true Ah ch W1 hr hlen
  have HW:=Lib.hid hW1
  have HC:=Lib.hid hc1
  have HK:=Lib.hid (And.intro hs1 (And.intro k0 k1))
  have HD:=Lib.hid (And.intro dn (And.intro d0 d1))
  clear hW1 hc1 hs1 k0 k1
  have hcov:=fun W' (hc:Calm W1 W')=>covers_c h b 0 n Ah ch A c W' (by omega) hn (HH.out.calm (HC.out.trans hc)) (HB.out.calm (HC.out.trans hc))
  have HCov:=Lib.hid hcov
  clear hcov
  go_enter Tryz.func239,Tryz.ntmps239
  go_wp2_with (first
   |(go_at_call 240;rw[←HW.out];refine hcall.mono ?_;rintro e w2 ⟨rfl,hc2⟩;have l0:=hc2.at_ HK.out.2.1 HK.out.1;have l1:=hc2.at_ HK.out.2.2 HK.out.1;have m0:=(HC.out.trans hc2).at_ HD.out.1 HBn;have m1:=(HC.out.trans hc2).at_ HD.out.2.1 HBb;have m2:=(HC.out.trans hc2).at_ HD.out.2.2 HBb)
   |(go_at_call 241;refine (HCov.out _ hc2).mono ?_;rintro e w3 ⟨rfl,hc3⟩))
  go_ret
  exact⟨ret_bool (by simp[hr]),HC.out.trans (hc2.trans hc3)⟩
def lastTo (b:Pat) (hs:List Pat) (k:Nat):Nat:=(hs.take k).foldl (fun m h=>max m (h.parts.length+1)) (b.parts.length+1)
theorem lastTo_succ {b:Pat} {hs:List Pat} {k:Nat} {p:Pat} (h:hs[k]?=some p):lastTo b hs (k+1)=max (lastTo b hs k) (p.parts.length+1):=by
 obtain⟨hlt,he⟩:=List.getElem?_eq_some_iff.1 h
 simp only[lastTo,List.take_succ_eq_append_getElem hlt,List.foldl_append,he,List.foldl_cons,List.foldl_nil]
theorem lastTo_bound {b:Pat} {hs:List Pat} (hb:b.parts.length≤16384) (hh:∀p∈hs,p.parts.length≤16384):∀k,lastTo b hs k≤16385∧b.parts.length+1≤lastTo b hs k:=by
 intro k
 induction k with
 |zero=>simp[lastTo];omega
 |succ k ih=>
  rcases h:hs[k]? with _ | p
  ·have:lastTo b hs (k+1)=lastTo b hs k:=by
    have hl:=List.getElem?_eq_none_iff.1 h
    simp[lastTo,List.take_of_length_le hl,List.take_of_length_le (show hs.length≤k+1 by omega)]
   rw[this];exact ih
  ·rw[lastTo_succ h]
   have:=hh p (List.mem_of_getElem? h)
   omega
theorem seek_stop {b:Pat} {hs:List Pat} {n k:Nat} (h:full b hs n=false) (hk:0 < k):seek b hs n k=n:=by
 cases k with
 |zero=>omega
 |succ k=>simp[seek,h]
theorem seek_go {b:Pat} {hs:List Pat} {n k:Nat} (h:full b hs n=true) (hk:0 < k):seek b hs n k=seek b hs (n+1) (k - 1):=by
 cases k with
 |zero=>omega
 |succ k=>simp[seek,h]
theorem PatsR.lens {w:World} {A:Option Addr} {ps:List Pat} (h:PatsR w A ps):∀p∈ps,p.parts.length≤16384:=fun p hp=>by
 obtain⟨j,hj,e⟩:=List.mem_iff_getElem.1 hp
 obtain⟨_,_,q,_,_,_,_,hq,_,_,_,_,h5⟩:=h.get hj
 rw[List.getElem?_eq_getElem hj,e] at hq
 cases hq
 exact h5.len
set_option maxHeartbeats 2000000 in
theorem llen_c (b:Pat) (hs:List Pat) (A:Option Addr) (c:Nat) (HA:Option Addr) (hc:Nat) (w:World) (hb:StrsR w A b.parts) (hh:PatsR w HA hs) :
  Calls Tryz.prog 214 #[.agg #[.slice A b.parts.length c,.bool b.rest],.slice HA hs.length hc] w fun e w'=>e=.returned (.int .i64 (leastLen b hs))∧Calm w w':=by
 have hlen:=hb.len
 have hhl:=hh.len
 have hls:=hh.lens
 have hbd:=lastTo_bound (b:=b) (hs:=hs) hlen hls
 obtain⟨m,hm⟩:∃m,b.parts.length=m:=⟨_,rfl⟩
 obtain⟨hn,hhn⟩:∃hn,hs.length=hn:=⟨_,rfl⟩
 rw[hm] at hlen hbd
 rw[hhn] at hhl
 obtain⟨w1,hw1⟩:∃w1,w1=w.alloc (.cells #[.slice A m c,.bool b.rest] 65):=⟨_,rfl⟩
 have hc1:Calm w w1:=by rw[hw1];exact (Calm.refl w).alloc _
 have hs1:w.heap.size < w1.heap.size:=by rw[hw1];simp
 have k0:w1.cell? ⟨w.heap.size,0,none⟩=some (.slice A m c):=by rw[hw1];simp
 have k1:w1.cell? ⟨w.heap.size,1,none⟩=some (.bool b.rest):=by rw[hw1];simp
 have HC:=Lib.hid hc1
 have HW:=Lib.hid hw1
 have HM:=Lib.hid hm
 have Hhn:=Lib.hid hhn
 have HK:Hid (w.heap.size < w1.heap.size∧w1.cell? ⟨w.heap.size,0,none⟩=some (.slice A b.parts.length c)∧w1.cell? ⟨w.heap.size,1,none⟩=some (.bool b.rest)):=⟨hs1,by rw[hm];exact k0,k1⟩
 have e0:∀p:CalmTo w1,p.w.cell? ⟨w.heap.size,0,none⟩=some (.slice A m c):=fun p=>p.cell k0 hs1
 have HB:=Lib.hid (hb.calm hc1)
 have HH:=Lib.hid (hh.calm hc1)
 have HBd:=Lib.hid hbd
 rw[hm,hhn]
 obtain⟨re,hre⟩:∃re,b.rest=re:=⟨_,rfl⟩
 have HRe:=Lib.hid hre
 have hre1:=k1
 rw[hre] at hre1 hw1 ⊢
 have HW:=Lib.hid hw1
 have HRe1:=Lib.hid (And.intro hre1 hs1)
 clear hb hh hm hhn hw1 hc1 hs1 k0 k1 hls hbd hre hre1
 go_enter Tryz.func214,Tryz.ntmps214
 go_wp2_with fail
 rw[←HW.out]
 refine wp_region_calm (by kernel_rfl) (by kernel_rfl) ?_
 repeat (go_big_quiet_step (fail))
 refine wpQuiet_nil ?_
 intro w2 hcw2
 have d1:=hcw2.at_ HRe1.out.1 HRe1.out.2
 have HC2:=Lib.hid hcw2
 clear hcw2 e0
 cases re with
 |false=>
  have HCX:=HC2
  have hle:m≤m+1∧leastLen b hs=seek b hs m (m+1 - m):=by
   refine⟨by omega,?_⟩
   unfold leastLen firstLen lastLen
   rw[HRe.out,if_neg (by simp),if_neg (by simp),HM.out]
  go_wp2_with fail
  have HLe:=Lib.hid hle
  clear hle
  go_loopg [9] (m+1 - m) (fun gg q wr=>∃(B n:Nat),q=.pointer (some ⟨B,0,none⟩)∧n≤m+1∧gg=m+1 - n∧w1.heap.size≤B∧B < wr.heap.size∧wr.cell? ⟨B,0,none⟩=some (.int .i64 n)∧Hid (leastLen b hs=seek b hs n (m+1 - n))∧Hid (Calm w1 wr))
  case atStart=>exact⟨_,m,rfl,HLe.out.1,rfl,HCX.out.size,by simp,by simp,HLe.out.2,HCX.out.alloc _⟩
  case round=>
   obtain⟨B,n,rfl,hn1,hgg,hB1,hB2,hcn,HSk,HCr⟩:=hrel
   have HG:=Lib.hid hgg
   clear hgg
   by_cases hnl:n≤m
   ·have hnl2:n≤20000:=by omega
    have hany:=pany_c 239 #[.pointer (some ⟨B,0,none⟩),.pointer (some ⟨w.heap.size,0,none⟩)] (enters_of Tryz.func239 (by kernel_rfl) rfl) (fun h=>reaches h n && covers h b 0 n) hs HA hc wr (HH.out.calm HCr.out)
     (lcl_pred b n A c wr B w.heap.size hnl2 hB2 (Nat.lt_of_lt_of_le HK.out.1 HCr.out.size) hcn (HCr.out.at_ HK.out.2.1 HK.out.1) (HCr.out.at_ HK.out.2.2 HK.out.1) (HB.out.calm HCr.out))
    rw[Hhn.out] at hany
    have hfe:hs.any (fun h=>reaches h n && covers h b 0 n)=full b hs n:=rfl
    rw[hfe] at hany
    clear hfe
    obtain⟨r,hr⟩:∃r,full b hs n=r:=⟨_,rfl⟩
    rw[hr] at hany
    have HR:=Lib.hid hr
    clear hr
    cases r with
    |true=>
     go_wp2_with (go_at_call 181;refine hany.mono ?_;rintro e w3 ⟨rfl,hc3⟩;have hcn3:=hc3.at_ hcn hB2)
     go_roundg (m+1 - (n+1))
     case measure=>have:=HG.out;omega
     case rel=>exact⟨_,n+1,rfl,by omega,rfl,Nat.le_trans hB1 (Nat.le_trans (Nat.le_of_lt hB2) hc3.size),by simp,by simp,(by show leastLen b hs=_;rw[HSk.out,seek_go HR.out (by omega)];congr 1),(HCr.out.trans hc3).alloc _⟩
    |false=>
     go_wp2_with (go_at_call 181;refine hany.mono ?_;rintro e w3 ⟨rfl,hc3⟩;have hcn3:=hc3.at_ hcn hB2)
     go_ret
     exact⟨ret_int (by rw[HSk.out,seek_stop HR.out (by omega)]),HC.out.trans (HCr.out.trans hc3)⟩
   ·have hz:Hid (leastLen b hs=0):=by
     show leastLen b hs=0
     rw[HSk.out,show m+1 - n=0 by omega]
     rfl
    clear HSk HG
    go_wp2
    go_ret
    exact⟨ret_int (by rw[hz.out];rfl),HC.out.trans HCr.out⟩
 |true=>
  go_wp2_with fail
  go_loopw [6,24] (fun t q wr=>∃k:Nat,k≤hn∧q=.int .i64 k∧t=.int .i64 (lastTo b hs k:Nat)∧Hid (Calm w1 wr)) (fun _ q _=>hn - (intOf q).toNat)
  case atStart=>exact⟨0,Nat.zero_le _,rfl,congrArg (Value.int .i64) (by simp[lastTo,HM.out]),HC2.out⟩
  case round=>
   obtain⟨k,hk,rfl,rfl,HCr⟩:=hrel
   have hbk:=(HBd.out k).1
   by_cases hlt:k < hn
   ·obtain⟨bb,o,p,Ak,ck,rfl,_,hpk,h1,h2,h3,h4,h5⟩:=(HH.out.calm HCr.out).get (k:=k) (by rw[Hhn.out];exact hlt)
    have hpl:=h5.len
    have hst:=lastTo_succ (b:=b) hpk
    obtain⟨T,hT⟩:∃T,lastTo b hs k=T:=⟨_,rfl⟩
    rw[hT] at hst hbk ⊢
    have HST:=Lib.hid hst
    have HT:=Lib.hid hT
    have HPK:=Lib.hid hpk
    clear hst h5 hT hpk
    go_wp2
    go_roundw
    case rel=>exact⟨k+1,by omega,by go_num,congrArg (Value.int .i64) (by rw[HST.out];omega),HCr.out.alloc _⟩
    case measure=>simp[intOf];omega
   ·have HCX:=HCr
    obtain⟨L,hL⟩:∃L,lastTo b hs k=L:=⟨_,rfl⟩
    have hL16:L≤16385:=by omega
    have hml:m+1≤L:=by have:=(HBd.out k).2;omega
    have hle:m+1≤L+1∧leastLen b hs=seek b hs (m+1) (L+1 - (m+1)):=by
     refine⟨by omega,?_⟩
     have hk2:k=hs.length:=by rw[Hhn.out];omega
     have hl2:lastLen b hs=L:=by
      rw[lastLen,if_pos HRe.out,←hL,lastTo,hk2,List.take_length]
     have hf2:firstLen b=m+1:=by rw[firstLen,if_pos HRe.out,HM.out]
     rw[leastLen,hl2,hf2]
    rw[hL]
    clear hL hbk
    go_wp2_with fail
    have HLe:=Lib.hid hle
    clear hle
    go_loopg [9] (L+1 - (m+1)) (fun gg q wr=>∃(B n:Nat),q=.pointer (some ⟨B,0,none⟩)∧n≤L+1∧gg=L+1 - n∧w1.heap.size≤B∧B < wr.heap.size∧wr.cell? ⟨B,0,none⟩=some (.int .i64 n)∧Hid (leastLen b hs=seek b hs n (L+1 - n))∧Hid (Calm w1 wr))
    case atStart=>exact⟨_,(m+1),rfl,HLe.out.1,rfl,HCX.out.size,by simp,by simp,HLe.out.2,HCX.out.alloc _⟩
    case round=>
     obtain⟨B,n,rfl,hn1,hgg,hB1,hB2,hcn,HSk,HCr⟩:=hrel
     have HG:=Lib.hid hgg
     clear hgg
     by_cases hnl:n≤L
     ·have hnl2:n≤20000:=by omega
      have hany:=pany_c 239 #[.pointer (some ⟨B,0,none⟩),.pointer (some ⟨w.heap.size,0,none⟩)] (enters_of Tryz.func239 (by kernel_rfl) rfl) (fun h=>reaches h n && covers h b 0 n) hs HA hc wr (HH.out.calm HCr.out)
       (lcl_pred b n A c wr B w.heap.size hnl2 hB2 (Nat.lt_of_lt_of_le HK.out.1 HCr.out.size) hcn (HCr.out.at_ HK.out.2.1 HK.out.1) (HCr.out.at_ HK.out.2.2 HK.out.1) (HB.out.calm HCr.out))
      rw[Hhn.out] at hany
      have hfe:hs.any (fun h=>reaches h n && covers h b 0 n)=full b hs n:=rfl
      rw[hfe] at hany
      clear hfe
      obtain⟨r,hr⟩:∃r,full b hs n=r:=⟨_,rfl⟩
      rw[hr] at hany
      have HR:=Lib.hid hr
      clear hr
      cases r with
      |true=>
       go_wp2_with (go_at_call 181;refine hany.mono ?_;rintro e w3 ⟨rfl,hc3⟩;have hcn3:=hc3.at_ hcn hB2)
       go_roundg (L+1 - (n+1))
       case measure=>have:=HG.out;omega
       case rel=>exact⟨_,n+1,rfl,by omega,rfl,Nat.le_trans hB1 (Nat.le_trans (Nat.le_of_lt hB2) hc3.size),by simp,by simp,(by show leastLen b hs=_;rw[HSk.out,seek_go HR.out (by omega)];congr 1),(HCr.out.trans hc3).alloc _⟩
      |false=>
       go_wp2_with (go_at_call 181;refine hany.mono ?_;rintro e w3 ⟨rfl,hc3⟩;have hcn3:=hc3.at_ hcn hB2)
       go_ret
       exact⟨ret_int (by rw[HSk.out,seek_stop HR.out (by omega)]),HC.out.trans (HCr.out.trans hc3)⟩
     ·have hz:Hid (leastLen b hs=0):=by
       show leastLen b hs=0
       rw[HSk.out,show L+1 - n=0 by omega]
       rfl
      clear HSk HG
      go_wp2
      go_ret
      exact⟨ret_int (by rw[hz.out];rfl),HC.out.trans HCr.out⟩
end Go.Proofs.YtcofdlipapnohaaGreatDoor
namespace Go.Proofs.YtcofdlipapnohaaGreatDoor
open Go Go.RowKit
end Go.Proofs.YtcofdlipapnohaaGreatDoor
namespace Go.Proofs.YtcofdlipapnohaaGreatDoor
open Go Go.RowKit Sy
end Go.Proofs.YtcofdlipapnohaaGreatDoor
