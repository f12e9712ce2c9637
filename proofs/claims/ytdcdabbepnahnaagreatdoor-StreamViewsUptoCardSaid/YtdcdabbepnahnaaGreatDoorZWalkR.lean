/- Walks: the reference's Length; the program's Void and Empty. -/
import Derived.Deep.LoopGhost
import Derived.Shelf.Spec.TrailingZeros
import Derived.Test.YtdcdabbepnahnaaGreatDoorProg
import Derived.Laws.BitsAllLaws
import Derived.Laws.Bits64b
import Derived.OneCell
import Derived.Laws.Rows
import Derived.Deep.OwnRows
import Derived.Deep.RegionHeld3
import Derived.Test.YtdcdabbepnahnaaGreatDoorZPartAt
import Derived.Test.YtdcdabbepnahnaaGreatDoorZMeetW
import Derived.Test.YtdcdabbepnahnaaGreatDoorZCopyP
import Derived.Test.YtdcdabbepnahnaaGreatDoorZInside
set_option linter.unusedVariables false
set_option linter.unusedSimpArgs false
namespace Go.Proofs.YtdcdabbepnahnaaGreatDoor
open Go Go.RowKit Sy
theorem cover_no {h b:Pat} {i n j:Nat} (h1:i≤j) (h2:j < n) (h3:j < h.parts.length) (hf:inside (pAt b j) (pAt h j)=false):covers h b i n=false:=by
 rcases hc:covers h b i n with _ | _
 ·rfl
 ·rw[covers_true.1 hc j h1 h2 h3] at hf
  cases hf
set_option maxHeartbeats 400000 in
theorem reaches_c (p:Pat) (n:Nat) (A:Option Addr) (c:Nat) (w:World) (hlen:p.parts.length≤16384):Calls Tryz.prog 154 #[.agg #[.slice A p.parts.length c,.bool p.rest],.int .i64 n] w fun e w'=>e=.returned (.bool (reaches p n))∧Calm w w':=by
 obtain⟨m,hm⟩:∃m,p.parts.length=m:=⟨_,rfl⟩
 rw[hm] at hlen ⊢
 cases hr:p.rest with
 |true=>
  have hv:reaches p n=decide (m < n):=by simp[reaches,hr,hm]
  rw[hv]
  clear hv hr hm
  by_cases hlt:m < n
  ·have h1:((n:Int) == (m:Int))=false:=by simp;omega
   go_enter Tryz.func154,Tryz.ntmps154
   go_wp2
   go_ret
   exact⟨ret_bool (by simp[hlt]),(Calm.refl w).alloc _⟩
  ·go_enter Tryz.func154,Tryz.ntmps154
   by_cases he:n=m
   ·have h1:((n:Int) == (m:Int))=true:=by simp;omega
    clear he
    go_wp2
    go_ret
    exact⟨ret_bool (by simp[hlt]),(Calm.refl w).alloc _⟩
   ·have h1:((n:Int) == (m:Int))=false:=by simp;omega
    clear he
    go_wp2
    go_ret
    exact⟨ret_bool (by simp[hlt]),(Calm.refl w).alloc _⟩
 |false=>
  have hv:reaches p n=(n == m):=by simp[reaches,hr,hm]
  rw[hv]
  clear hv hr hm
  go_enter Tryz.func154,Tryz.ntmps154
  by_cases he:n=m
  ·have h1:((n:Int) == (m:Int))=true:=by simp;omega
   have h2:=Lib.hid he
   clear he
   go_wp2
   go_ret
   exact⟨ret_bool (by simp[h2.out]),(Calm.refl w).alloc _⟩
  ·have h1:((n:Int) == (m:Int))=false:=by simp;omega
   have h2:=Lib.hid he
   clear he
   by_cases hlt:m < n
   all_goals
    go_wp2
    go_ret
    exact⟨ret_bool (by have:=h2.out;simp[this]),(Calm.refl w).alloc _⟩
set_option maxHeartbeats 1000000 in
theorem covers_c (h b:Pat) (i n:Nat) (HA:Option Addr) (hc:Nat) (A:Option Addr) (c:Nat) (w:World) (hi:i≤20000) (hn:n≤20000) (hh:StrsR w HA h.parts) (hb:StrsR w A b.parts) :
  Calls Tryz.prog 155 #[.agg #[.slice HA h.parts.length hc,.bool h.rest],.agg #[.slice A b.parts.length c,.bool b.rest],.int .i64 i,.int .i64 n] w fun e w'=>e=.returned (.bool (covers h b i n))∧Calm w w':=by
 have hlen:=hh.len
 obtain⟨m,hm⟩:∃m,h.parts.length=m:=⟨_,rfl⟩
 rw[hm] at hlen
 obtain⟨w1,hw1⟩:∃w1,w1=(w.alloc (.cells #[.slice HA m hc,.bool h.rest] 51)).alloc (.cells #[.slice A b.parts.length c,.bool b.rest] 51):=⟨_,rfl⟩
 have hc1:Calm w w1:=by rw[hw1];exact ((Calm.refl w).alloc _).alloc _
 have hs1:w1.heap.size=w.heap.size+2:=by rw[hw1];simp
 have c0:w1.cell? ⟨w.heap.size,0,none⟩=some (.slice HA m hc):=by rw[hw1];simp
 have c1:w1.cell? ⟨w.heap.size+1,0,none⟩=some (.slice A b.parts.length c):=by rw[hw1];simp
 have c2:w1.cell? ⟨w.heap.size+1,1,none⟩=some (.bool b.rest):=by rw[hw1];simp
 have HC:=Lib.hid hc1
 have HM:=Lib.hid hm
 have HW:=Lib.hid hw1
 have HS:=Lib.hid hs1
 have HCells:=Lib.hid (And.intro c0 (And.intro c1 c2))
 have HH:=Lib.hid (hh.calm hc1)
 have HB:=Lib.hid (hb.calm hc1)
 rw[hm]
 clear hh hb hm hw1 hc1 hs1 c0 c1 c2
 go_enter Tryz.func155,Tryz.ntmps155
 go_wp2_with fail
 rw[←HW.out]
 go_loopw [9] (fun q wr=>∃k:Nat,i≤k∧k≤max i n∧q=.int .i64 k∧Hid (∀j,i≤j→j < k→j < n→j < m→inside (pAt b j) (pAt h j)=true)∧Hid (Calm w1 wr)) (fun q _=>max i n - (intOf q).toNat)
 case atStart=>exact⟨i,Nat.le_refl _,by omega,rfl,fun j h1 h2=>absurd h2 (by omega),Calm.refl _⟩
 case round=>
  obtain⟨k,hk1,hk2,rfl,HI,HCr⟩:=hrel
  have d0:=HCr.out.at_ HCells.out.1 (by rw[HS.out];omega)
  by_cases hkn:k < n
  ·by_cases hkm:k < m
   ·obtain⟨bb,o,l,rfl,hbb,hl,hll,hcell⟩:=(HH.out.calm HCr.out).get (k:=k) (by rw[HM.out];exact hkm)
    have hpl:pAt h k=l:=by simp[pAt,List.getD_eq_getElem?_getD,hl]
    have HP:=Lib.hid hpl
    have e0:∀p:CalmTo wr,p.w.cell? ⟨w.heap.size,0,none⟩=some (.slice (some ⟨bb,o,none⟩) m hc):=fun p=>p.cell d0 (Nat.lt_of_lt_of_le (by rw[HS.out];omega) HCr.out.size)
    have e1:∀p:CalmTo wr,p.w.cell? ⟨w.heap.size+1,0,none⟩=some (.slice A b.parts.length c):=fun p=>p.cell (HCr.out.at_ HCells.out.2.1 (by rw[HS.out];omega)) (Nat.lt_of_lt_of_le (by rw[HS.out];omega) HCr.out.size)
    have e2:∀p:CalmTo wr,p.w.cell? ⟨w.heap.size+1,1,none⟩=some (.bool b.rest):=fun p=>p.cell (HCr.out.at_ HCells.out.2.2 (by rw[HS.out];omega)) (Nat.lt_of_lt_of_le (by rw[HS.out];omega) HCr.out.size)
    have e3:∀p:CalmTo wr,p.w.cell? ⟨bb,o+k,none⟩=some (.string (bs l)):=fun p=>p.cell hcell hbb
    have K1:=Lib.hid (fun p:CalmTo wr=>partAt_c b k A c p.w (by omega) (HB.out.calm (HCr.out.trans p.h)))
    have hpbl:(pAt b k).length≤16384:=by
     rcases Nat.lt_or_ge k b.parts.length with hkb | hkb
     ·have:pAt b k=b.parts[k]:=by simp[pAt,List.getD_eq_getElem?_getD,List.getElem?_eq_getElem hkb]
      rw[this];exact HB.out.each _ (List.getElem_mem hkb)
     ·rw[pAt_out hkb];simp
    have K2:=Lib.hid (fun p:CalmTo wr=>pwith_c (pAt b k) l p.w hpbl hll)
    obtain⟨r,hr⟩:∃r,inside (pAt b k) l=r:=⟨_,rfl⟩
    rw[hr] at K2
    have HR:=Lib.hid hr
    clear hl hpl hcell hr
    go_wp2_with fail
    refine wp_region_calm (by kernel_rfl) (by kernel_rfl) ?_
    repeat (go_big_quiet_step ((first | (go_at_call 177;exact calmOf (K1.out _)) | (go_at_call 152;exact calmOf (K2.out _)))))
    refine wpQuiet_nil ?_
    intro w2 hcw2
    cases r with
    |true=>
     go_wp2
     go_roundw
     case rel=>
      refine⟨k+1,by omega,by omega,by go_num,fun j h1 h2 h3 h4=>?_,HCr.out.trans hcw2⟩
      by_cases e:j=k
      ·subst e
       rw[HP.out]
       exact HR.out
      ·exact HI.out j h1 (by omega) h3 h4
     case measure=>simp[intOf];omega
    |false=>
     go_wp2
     go_ret
     exact⟨ret_bool (cover_no hk1 hkn (by rw[HM.out];exact hkm) (by rw[HP.out];exact HR.out)).symm,HC.out.trans (HCr.out.trans hcw2)⟩
   ·have hv:Hid (covers h b i n=true):=covers_true.2 fun j h1 h2 h3=>HI.out j h1 (by rw[HM.out] at h3;omega) h2 (by rw[HM.out] at h3;exact h3)
    go_wp2
    go_ret
    exact⟨ret_bool hv.out.symm,HC.out.trans HCr.out⟩
  ·have hv:Hid (covers h b i n=true):=covers_true.2 fun j h1 h2 h3=>HI.out j h1 (by omega) h2 (by rw[HM.out] at h3;exact h3)
   go_wp2
   go_ret
   exact⟨ret_bool hv.out.symm,HC.out.trans HCr.out⟩
def ixOf {α:Type} (pr:α→Bool) (ps:List α):Int:=if ps.any pr then (ps.findIdx pr:Int) else -1
theorem ixOf_hit {α:Type} {pr:α→Bool} {ps:List α} {k:Nat} {p:α} (hk:ps[k]?=some p) (hp:pr p=true) (hall:∀j q,j < k→ps[j]?=some q→pr q=false):ixOf pr ps=k:=by
 obtain⟨hlt,he⟩:=List.getElem?_eq_some_iff.1 hk
 have h1:ps.any pr=true:=List.any_eq_true.2 ⟨p,List.mem_of_getElem? hk,hp⟩
 have h2:ps.findIdx pr=k:=(List.findIdx_eq hlt).2 ⟨by rw[he];exact hp,fun j hj=>hall j _ hj (List.getElem?_eq_getElem (by omega))⟩
 rw[ixOf,if_pos h1,h2]
theorem ixOf_miss {α:Type} {pr:α→Bool} {ps:List α} (hall:∀j q,j < ps.length→ps[j]?=some q→pr q=false):ixOf pr ps=-1:=by
 have h1:ps.any pr=false:=by
  rw[List.any_eq_false]
  intro q hq
  obtain⟨j,hj,e⟩:=List.mem_iff_getElem.1 hq
  simp[hall j q hj (by rw[List.getElem?_eq_getElem hj,e])]
 rw[ixOf,h1]
 rfl
theorem ixOf_any {α:Type} (pr:α→Bool) (ps:List α):decide (0≤ixOf pr ps)=ps.any pr:=by
 unfold ixOf
 cases ps.any pr <;> simp
theorem none_step {α:Type} {pr:α→Bool} {ps:List α} {k:Nat} {p:α} (hk:ps[k]?=some p) (hp:pr p=false) (h:∀j q,j < k→ps[j]?=some q→pr q=false):∀j q,j < k+1→ps[j]?=some q→pr q=false:=fun j q hj hq=>by
 by_cases e:j=k
 ·subst e
  rw[hk] at hq
  cases hq
  exact hp
 ·exact h j q (by omega) hq
def PredP (g:Nat) (lb:Array Value) (pr:Pat→Bool) (w:World):Prop:=
 ∀(W:World),Calm w W→∀(p:Pat) (A:Option Addr) (c:Nat),StrsR W A p.parts→p.parts.length≤c→c≤9223372036854775807→Calls Tryz.prog g (#[.agg #[.slice A p.parts.length c,.bool p.rest]]++lb) W fun e w'=>e=.returned (.bool (pr p))∧Calm W w'
set_option maxHeartbeats 1000000 in
theorem pidx_c (g:Nat) (lb:Array Value) (eg:∀args w,(callFunc g args).run Tryz.prog w=.ok (.enter g args) w) (pr:Pat→Bool) (ps:List Pat) (A:Option Addr) (c:Nat) (w:World) (hr:PatsR w A ps) (hp:PredP g lb pr w) :
  Calls Tryz.prog 121 #[.slice A ps.length c,.func (.func g) #[] lb] w fun e w'=>e=.returned (.int .i64 (ixOf pr ps))∧Calm w w':=by
 have hlen:=hr.len
 obtain⟨n,hn⟩:∃n,ps.length=n:=⟨_,rfl⟩
 have Hn:=Lib.hid hn
 have HR:=Lib.hid hr
 have HP:=Lib.hid hp
 rw[hn] at hlen
 rw[hn]
 clear hn hr hp
 go_enter Tryz.func121,Tryz.ntmps121
 go_wp2_with fail
 go_loopw [8] (fun i wr=>∃k:Nat,k≤n∧i=.int .i64 k∧Hid (∀j q,j < k→ps[j]?=some q→pr q=false)∧Hid (Calm w wr)) (fun i _=>n - (intOf i).toNat)
 case atStart=>exact⟨0,Nat.zero_le _,rfl,fun j q hj=>absurd hj (Nat.not_lt_zero _),Calm.refl _⟩
 case round=>
  obtain⟨k,hk,rfl,HI,HC⟩:=hrel
  by_cases hlt:k < n
  ·obtain⟨b,o,p,Ak,ck,rfl,_,hpk,h1,h2,h3,h4,h5⟩:=(HR.out.calm HC.out).get (k:=k) (by rw[Hn.out];exact hlt)
   have HK:=Lib.hid hpk
   have hcall:=HP.out wr HC.out p Ak ck h5 h3 h4
   obtain⟨r,hr⟩:∃r,pr p=r:=⟨_,rfl⟩
   rw[hr] at hcall
   have HPr:=Lib.hid hr
   clear hpk h5 hr
   cases r with
   |true=>
    go_wp2_with (go_at_fn g;refine hcall.mono ?_;rintro e w' ⟨rfl,hb'⟩)
    go_ret
    exact⟨ret_int (ixOf_hit HK.out HPr.out HI.out).symm,HC.out.trans hb'⟩
   |false=>
    go_wp2_with (go_at_fn g;refine hcall.mono ?_;rintro e w' ⟨rfl,hb'⟩)
    go_roundw
    case rel=>exact⟨k+1,by omega,by go_num,none_step HK.out HPr.out HI.out,HC.out.trans hb'⟩
    case measure=>simp[intOf];omega
  ·have hv:Hid (ixOf pr ps=-1):=ixOf_miss fun j q hj hq=>HI.out j q (by rw[Hn.out] at hj;omega) hq
   go_wp2
   go_ret
   exact⟨ret_int hv.out.symm,HC.out⟩
set_option maxHeartbeats 400000 in
theorem pany_c (g:Nat) (lb:Array Value) (eg:∀args w,(callFunc g args).run Tryz.prog w=.ok (.enter g args) w) (pr:Pat→Bool) (ps:List Pat) (A:Option Addr) (c:Nat) (w:World) (hr:PatsR w A ps) (hp:PredP g lb pr w) :
  Calls Tryz.prog 81 #[.slice A ps.length c,.func (.func g) #[] lb] w fun e w'=>e=.returned (.bool (ps.any pr))∧Calm w w':=by
 have h:=pidx_c g lb eg pr ps A c w hr hp
 have e:=ixOf_any pr ps
 rw[←e]
 clear hr hp eg e
 generalize ixOf pr ps=r at h ⊢
 go_enter Tryz.func81,Tryz.ntmps81
 go_wp2_with (go_at_call 121;refine h.mono ?_;rintro e w' ⟨rfl,hb'⟩)
 go_ret
 exact⟨rfl,hb'⟩
theorem reaches_v (p:Pat) (n:Nat) (r:Bool) (A:Option Addr) (c:Nat) (w:World) (hv:reaches p n=r) (hlen:p.parts.length≤16384):Calls Tryz.prog 154 #[.agg #[.slice A p.parts.length c,.bool p.rest],.int .i64 n] w fun e w'=>e=.returned (.bool r)∧Calm w w':=hv ▸ reaches_c p n A c w hlen
set_option maxHeartbeats 1000000 in
theorem lcl_pred (b:Pat) (n:Nat) (A:Option Addr) (c:Nat) (w:World) (Bn Bb:Nat) (hn:n≤20000) (hBn:Bn < w.heap.size) (hBb:Bb < w.heap.size) (cn:w.cell? ⟨Bn,0,none⟩=some (.int .i64 n))
  (cb0:w.cell? ⟨Bb,0,none⟩=some (.slice A b.parts.length c)) (cb1:w.cell? ⟨Bb,1,none⟩=some (.bool b.rest)) (hb:StrsR w A b.parts) :
  PredP 153 #[.pointer (some ⟨Bn,0,none⟩),.pointer (some ⟨Bb,0,none⟩)] (fun h=>reaches h n && covers h b 0 n) w:=by
 intro W hW h Ah ch hh hhc hhc47
 show Calls Tryz.prog 153 #[.agg #[.slice Ah h.parts.length ch,.bool h.rest],.pointer (some ⟨Bn,0,none⟩),.pointer (some ⟨Bb,0,none⟩)] W _
 have dn:=hW.at_ cn hBn
 have d0:=hW.at_ cb0 hBb
 have d1:=hW.at_ cb1 hBb
 have hne1:Bn≠W.heap.size:=by have:=hW.size;omega
 have hne2:Bb≠W.heap.size:=by have:=hW.size;omega
 have HBn:Bn < W.heap.size:=Nat.lt_of_lt_of_le hBn hW.size
 have HBb:Bb < W.heap.size:=Nat.lt_of_lt_of_le hBb hW.size
 have HH:=Lib.hid hh
 have HB:=Lib.hid (hb.calm hW)
 have hlen:=hh.len
 clear hW cn cb0 cb1 hb hh hBn hBb
 rcases hr:reaches h n with _ | _
 ·go_enter Tryz.func153,Tryz.ntmps153
  go_wp2_with (go_at_call 154;refine (reaches_v _ _ _ _ _ _ hr hlen).mono ?_;rintro e w2 ⟨rfl,hc2⟩)
  go_ret
  exact⟨ret_bool (by simp[hr]),((Calm.refl W).alloc _).trans hc2⟩
 ·obtain⟨W1,hW1⟩:∃W1,W1=W.alloc (.cells #[.slice Ah h.parts.length ch,.bool h.rest] 51):=⟨_,rfl⟩
  have hc1:Calm W W1:=by rw[hW1];exact (Calm.refl W).alloc _
  have hs1:W.heap.size < W1.heap.size:=by rw[hW1];simp
  have k0:W1.cell? ⟨W.heap.size,0,none⟩=some (.slice Ah h.parts.length ch):=by rw[hW1];simp
  have k1:W1.cell? ⟨W.heap.size,1,none⟩=some (.bool h.rest):=by rw[hW1];simp
  have hcall:=reaches_v h n true Ah ch W1 hr hlen
  have HW:=Lib.hid hW1
  have HC:=Lib.hid hc1
  have HK:=Lib.hid (And.intro hs1 (And.intro k0 k1))
  have HD:=Lib.hid (And.intro dn (And.intro d0 d1))
  clear hW1 hc1 hs1 k0 k1
  have hcov:=fun W' (hc:Calm W1 W')=>covers_c h b 0 n Ah ch A c W' (by omega) hn (HH.out.calm (HC.out.trans hc)) (HB.out.calm (HC.out.trans hc))
  have HCov:=Lib.hid hcov
  clear hcov
  go_enter Tryz.func153,Tryz.ntmps153
  go_wp2_with (first
   |(go_at_call 154;rw[←HW.out];refine hcall.mono ?_;rintro e w2 ⟨rfl,hc2⟩;have l0:=hc2.at_ HK.out.2.1 HK.out.1;have l1:=hc2.at_ HK.out.2.2 HK.out.1;have m0:=(HC.out.trans hc2).at_ HD.out.1 HBn;have m1:=(HC.out.trans hc2).at_ HD.out.2.1 HBb;have m2:=(HC.out.trans hc2).at_ HD.out.2.2 HBb)
   |(go_at_call 155;refine (HCov.out _ hc2).mono ?_;rintro e w3 ⟨rfl,hc3⟩))
  go_ret
  exact⟨ret_bool (by simp[hr]),HC.out.trans (hc2.trans hc3)⟩
def lastTo (b:Pat) (hs:List Pat) (k:Nat):Nat:=(hs.take k).foldl (fun m h=>max m (h.parts.length+1)) (b.parts.length+1)
theorem lastTo_succ {b:Pat} {hs:List Pat} {k:Nat} {p:Pat} (h:hs[k]?=some p):lastTo b hs (k+1)=max (lastTo b hs k) (p.parts.length+1):=by
 obtain⟨hlt,he⟩:=List.getElem?_eq_some_iff.1 h
 simp only[lastTo,List.take_succ_eq_append_getElem hlt,List.foldl_append,he,List.foldl_cons,List.foldl_nil]
theorem lastTo_bound {b:Pat} {hs:List Pat} (hb:b.parts.length≤16384) (hh:∀p∈hs,p.parts.length≤16384):∀k,lastTo b hs k≤16385∧b.parts.length+1≤lastTo b hs k:=by
 intro k
 induction k with
 |zero=>simp[lastTo];omega
 |succ k ih=>
  rcases h:hs[k]? with _ | p
  ·have:lastTo b hs (k+1)=lastTo b hs k:=by
    have hl:=List.getElem?_eq_none_iff.1 h
    simp[lastTo,List.take_of_length_le hl,List.take_of_length_le (show hs.length≤k+1 by omega)]
   rw[this];exact ih
  ·rw[lastTo_succ h]
   have:=hh p (List.mem_of_getElem? h)
   omega
theorem seek_stop {b:Pat} {hs:List Pat} {n k:Nat} (h:full b hs n=false) (hk:0 < k):seek b hs n k=n:=by
 cases k with
 |zero=>omega
 |succ k=>simp[seek,h]
theorem seek_go {b:Pat} {hs:List Pat} {n k:Nat} (h:full b hs n=true) (hk:0 < k):seek b hs n k=seek b hs (n+1) (k - 1):=by
 cases k with
 |zero=>omega
 |succ k=>simp[seek,h]
theorem PatsR.lens {w:World} {A:Option Addr} {ps:List Pat} (h:PatsR w A ps):∀p∈ps,p.parts.length≤16384:=fun p hp=>by
 obtain⟨j,hj,e⟩:=List.mem_iff_getElem.1 hp
 obtain⟨_,_,q,_,_,_,_,hq,_,_,_,_,h5⟩:=h.get hj
 rw[List.getElem?_eq_getElem hj,e] at hq
 cases hq
 exact h5.len
set_option maxHeartbeats 2000000 in
theorem llen_c (b:Pat) (hs:List Pat) (A:Option Addr) (c:Nat) (HA:Option Addr) (hc:Nat) (w:World) (hb:StrsR w A b.parts) (hh:PatsR w HA hs) :
  Calls Tryz.prog 114 #[.agg #[.slice A b.parts.length c,.bool b.rest],.slice HA hs.length hc] w fun e w'=>e=.returned (.int .i64 (leastLen b hs))∧Calm w w':=by
 have hlen:=hb.len
 have hhl:=hh.len
 have hls:=hh.lens
 have hbd:=lastTo_bound (b:=b) (hs:=hs) hlen hls
 obtain⟨m,hm⟩:∃m,b.parts.length=m:=⟨_,rfl⟩
 obtain⟨hn,hhn⟩:∃hn,hs.length=hn:=⟨_,rfl⟩
 rw[hm] at hlen hbd
 rw[hhn] at hhl
 obtain⟨w1,hw1⟩:∃w1,w1=w.alloc (.cells #[.slice A m c,.bool b.rest] 51):=⟨_,rfl⟩
 have hc1:Calm w w1:=by rw[hw1];exact (Calm.refl w).alloc _
 have hs1:w.heap.size < w1.heap.size:=by rw[hw1];simp
 have k0:w1.cell? ⟨w.heap.size,0,none⟩=some (.slice A m c):=by rw[hw1];simp
 have k1:w1.cell? ⟨w.heap.size,1,none⟩=some (.bool b.rest):=by rw[hw1];simp
 have HC:=Lib.hid hc1
 have HW:=Lib.hid hw1
 have HM:=Lib.hid hm
 have Hhn:=Lib.hid hhn
 have HK:Hid (w.heap.size < w1.heap.size∧w1.cell? ⟨w.heap.size,0,none⟩=some (.slice A b.parts.length c)∧w1.cell? ⟨w.heap.size,1,none⟩=some (.bool b.rest)):=⟨hs1,by rw[hm];exact k0,k1⟩
 have e0:∀p:CalmTo w1,p.w.cell? ⟨w.heap.size,0,none⟩=some (.slice A m c):=fun p=>p.cell k0 hs1
 have HB:=Lib.hid (hb.calm hc1)
 have HH:=Lib.hid (hh.calm hc1)
 have HBd:=Lib.hid hbd
 rw[hm,hhn]
 obtain⟨re,hre⟩:∃re,b.rest=re:=⟨_,rfl⟩
 have HRe:=Lib.hid hre
 have hre1:=k1
 rw[hre] at hre1 hw1 ⊢
 have HW:=Lib.hid hw1
 have HRe1:=Lib.hid (And.intro hre1 hs1)
 clear hb hh hm hhn hw1 hc1 hs1 k0 k1 hls hbd hre hre1
 go_enter Tryz.func114,Tryz.ntmps114
 go_wp2_with fail
 rw[←HW.out]
 refine wp_region_calm (by kernel_rfl) (by kernel_rfl) ?_
 repeat (go_big_quiet_step (fail))
 refine wpQuiet_nil ?_
 intro w2 hcw2
 have d1:=hcw2.at_ HRe1.out.1 HRe1.out.2
 have HC2:=Lib.hid hcw2
 clear hcw2 e0
 cases re with
 |false=>
  have HCX:=HC2
  have hle:m≤m+1∧leastLen b hs=seek b hs m (m+1 - m):=by
   refine⟨by omega,?_⟩
   unfold leastLen firstLen lastLen
   rw[HRe.out,if_neg (by simp),if_neg (by simp),HM.out]
  go_wp2_with fail
  have HLe:=Lib.hid hle
  clear hle
  go_loopg [9] (m+1 - m) (fun gg q wr=>∃(B n:Nat),q=.pointer (some ⟨B,0,none⟩)∧n≤m+1∧gg=m+1 - n∧w1.heap.size≤B∧B < wr.heap.size∧wr.cell? ⟨B,0,none⟩=some (.int .i64 n)∧Hid (leastLen b hs=seek b hs n (m+1 - n))∧Hid (Calm w1 wr))
  case atStart=>exact⟨_,m,rfl,HLe.out.1,rfl,HCX.out.size,by simp,by simp,HLe.out.2,HCX.out.alloc _⟩
  case round=>
   obtain⟨B,n,rfl,hn1,hgg,hB1,hB2,hcn,HSk,HCr⟩:=hrel
   have HG:=Lib.hid hgg
   clear hgg
   by_cases hnl:n≤m
   ·have hnl2:n≤20000:=by omega
    have hany:=pany_c 153 #[.pointer (some ⟨B,0,none⟩),.pointer (some ⟨w.heap.size,0,none⟩)] (enters_of Tryz.func153 (by kernel_rfl) rfl) (fun h=>reaches h n && covers h b 0 n) hs HA hc wr (HH.out.calm HCr.out)
     (lcl_pred b n A c wr B w.heap.size hnl2 hB2 (Nat.lt_of_lt_of_le HK.out.1 HCr.out.size) hcn (HCr.out.at_ HK.out.2.1 HK.out.1) (HCr.out.at_ HK.out.2.2 HK.out.1) (HB.out.calm HCr.out))
    rw[Hhn.out] at hany
    have hfe:hs.any (fun h=>reaches h n && covers h b 0 n)=full b hs n:=rfl
    rw[hfe] at hany
    clear hfe
    obtain⟨r,hr⟩:∃r,full b hs n=r:=⟨_,rfl⟩
    rw[hr] at hany
    have HR:=Lib.hid hr
    clear hr
    cases r with
    |true=>
     go_wp2_with (go_at_call 81;refine hany.mono ?_;rintro e w3 ⟨rfl,hc3⟩;have hcn3:=hc3.at_ hcn hB2)
     go_roundg (m+1 - (n+1))
     case measure=>have:=HG.out;omega
     case rel=>exact⟨_,n+1,rfl,by omega,rfl,Nat.le_trans hB1 (Nat.le_trans (Nat.le_of_lt hB2) hc3.size),by simp,by simp,(by show leastLen b hs=_;rw[HSk.out,seek_go HR.out (by omega)];congr 1),(HCr.out.trans hc3).alloc _⟩
    |false=>
     go_wp2_with (go_at_call 81;refine hany.mono ?_;rintro e w3 ⟨rfl,hc3⟩;have hcn3:=hc3.at_ hcn hB2)
     go_ret
     exact⟨ret_int (by rw[HSk.out,seek_stop HR.out (by omega)]),HC.out.trans (HCr.out.trans hc3)⟩
   ·have hz:Hid (leastLen b hs=0):=by
     show leastLen b hs=0
     rw[HSk.out,show m+1 - n=0 by omega]
     rfl
    clear HSk HG
    go_wp2
    go_ret
    exact⟨ret_int (by rw[hz.out];rfl),HC.out.trans HCr.out⟩
 |true=>
  go_wp2_with fail
  go_loopw [6,24] (fun t q wr=>∃k:Nat,k≤hn∧q=.int .i64 k∧t=.int .i64 (lastTo b hs k:Nat)∧Hid (Calm w1 wr)) (fun _ q _=>hn - (intOf q).toNat)
  case atStart=>exact⟨0,Nat.zero_le _,rfl,congrArg (Value.int .i64) (by simp[lastTo,HM.out]),HC2.out⟩
  case round=>
   obtain⟨k,hk,rfl,rfl,HCr⟩:=hrel
   have hbk:=(HBd.out k).1
   by_cases hlt:k < hn
   ·obtain⟨bb,o,p,Ak,ck,rfl,_,hpk,h1,h2,h3,h4,h5⟩:=(HH.out.calm HCr.out).get (k:=k) (by rw[Hhn.out];exact hlt)
    have hpl:=h5.len
    have hst:=lastTo_succ (b:=b) hpk
    obtain⟨T,hT⟩:∃T,lastTo b hs k=T:=⟨_,rfl⟩
    rw[hT] at hst hbk ⊢
    have HST:=Lib.hid hst
    have HT:=Lib.hid hT
    have HPK:=Lib.hid hpk
    clear hst h5 hT hpk
    go_wp2
    go_roundw
    case rel=>exact⟨k+1,by omega,by go_num,congrArg (Value.int .i64) (by rw[HST.out];omega),HCr.out.alloc _⟩
    case measure=>simp[intOf];omega
   ·have HCX:=HCr
    obtain⟨L,hL⟩:∃L,lastTo b hs k=L:=⟨_,rfl⟩
    have hL16:L≤16385:=by omega
    have hml:m+1≤L:=by have:=(HBd.out k).2;omega
    have hle:m+1≤L+1∧leastLen b hs=seek b hs (m+1) (L+1 - (m+1)):=by
     refine⟨by omega,?_⟩
     have hk2:k=hs.length:=by rw[Hhn.out];omega
     have hl2:lastLen b hs=L:=by
      rw[lastLen,if_pos HRe.out,←hL,lastTo,hk2,List.take_length]
     have hf2:firstLen b=m+1:=by rw[firstLen,if_pos HRe.out,HM.out]
     rw[leastLen,hl2,hf2]
    rw[hL]
    clear hL hbk
    go_wp2_with fail
    have HLe:=Lib.hid hle
    clear hle
    go_loopg [9] (L+1 - (m+1)) (fun gg q wr=>∃(B n:Nat),q=.pointer (some ⟨B,0,none⟩)∧n≤L+1∧gg=L+1 - n∧w1.heap.size≤B∧B < wr.heap.size∧wr.cell? ⟨B,0,none⟩=some (.int .i64 n)∧Hid (leastLen b hs=seek b hs n (L+1 - n))∧Hid (Calm w1 wr))
    case atStart=>exact⟨_,(m+1),rfl,HLe.out.1,rfl,HCX.out.size,by simp,by simp,HLe.out.2,HCX.out.alloc _⟩
    case round=>
     obtain⟨B,n,rfl,hn1,hgg,hB1,hB2,hcn,HSk,HCr⟩:=hrel
     have HG:=Lib.hid hgg
     clear hgg
     by_cases hnl:n≤L
     ·have hnl2:n≤20000:=by omega
      have hany:=pany_c 153 #[.pointer (some ⟨B,0,none⟩),.pointer (some ⟨w.heap.size,0,none⟩)] (enters_of Tryz.func153 (by kernel_rfl) rfl) (fun h=>reaches h n && covers h b 0 n) hs HA hc wr (HH.out.calm HCr.out)
       (lcl_pred b n A c wr B w.heap.size hnl2 hB2 (Nat.lt_of_lt_of_le HK.out.1 HCr.out.size) hcn (HCr.out.at_ HK.out.2.1 HK.out.1) (HCr.out.at_ HK.out.2.2 HK.out.1) (HB.out.calm HCr.out))
      rw[Hhn.out] at hany
      have hfe:hs.any (fun h=>reaches h n && covers h b 0 n)=full b hs n:=rfl
      rw[hfe] at hany
      clear hfe
      obtain⟨r,hr⟩:∃r,full b hs n=r:=⟨_,rfl⟩
      rw[hr] at hany
      have HR:=Lib.hid hr
      clear hr
      cases r with
      |true=>
       go_wp2_with (go_at_call 81;refine hany.mono ?_;rintro e w3 ⟨rfl,hc3⟩;have hcn3:=hc3.at_ hcn hB2)
       go_roundg (L+1 - (n+1))
       case measure=>have:=HG.out;omega
       case rel=>exact⟨_,n+1,rfl,by omega,rfl,Nat.le_trans hB1 (Nat.le_trans (Nat.le_of_lt hB2) hc3.size),by simp,by simp,(by show leastLen b hs=_;rw[HSk.out,seek_go HR.out (by omega)];congr 1),(HCr.out.trans hc3).alloc _⟩
      |false=>
       go_wp2_with (go_at_call 81;refine hany.mono ?_;rintro e w3 ⟨rfl,hc3⟩;have hcn3:=hc3.at_ hcn hB2)
       go_ret
       exact⟨ret_int (by rw[HSk.out,seek_stop HR.out (by omega)]),HC.out.trans (HCr.out.trans hc3)⟩
     ·have hz:Hid (leastLen b hs=0):=by
       show leastLen b hs=0
       rw[HSk.out,show L+1 - n=0 by omega]
       rfl
      clear HSk HG
      go_wp2
      go_ret
      exact⟨ret_int (by rw[hz.out];rfl),HC.out.trans HCr.out⟩
end Go.Proofs.YtdcdabbepnahnaaGreatDoor
namespace Go.Proofs.YtdcdabbepnahnaaGreatDoor
open Go Go.RowKit
end Go.Proofs.YtdcdabbepnahnaaGreatDoor
namespace Go.Proofs.YtdcdabbepnahnaaGreatDoor
open Go Go.RowKit Sy
theorem llen_v (b:Pat) (hs:List Pat) (n:Nat) (A:Option Addr) (c:Nat) (HA:Option Addr) (hc:Nat) (w:World) (hv:leastLen b hs=n) (hb:StrsR w A b.parts) (hh:PatsR w HA hs) :
  Calls Tryz.prog 114 #[.agg #[.slice A b.parts.length c,.bool b.rest],.slice HA hs.length hc] w fun e w'=>e=.returned (.int .i64 n)∧Calm w w':=hv ▸ llen_c b hs A c HA hc w hb hh
theorem pAt_len {w:World} {A:Option Addr} {b:Pat} {i:Nat} (h:StrsR w A b.parts):(pAt b i).length≤16384:=by
 rcases Nat.lt_or_ge i b.parts.length with hkb | hkb
 ·have:pAt b i=b.parts[i]:=by simp[pAt,List.getD_eq_getElem?_getD,List.getElem?_eq_getElem hkb]
  rw[this];exact h.each _ (List.getElem_mem hkb)
 ·rw[pAt_out hkb];simp
def void (b:Pat) (hs:List Pat):Bool:=leastLen b hs == 0
set_option maxHeartbeats 400000 in
theorem void_c (b:Pat) (hs:List Pat) (A:Option Addr) (c:Nat) (HA:Option Addr) (hc:Nat) (w:World) (hb:StrsR w A b.parts) (hh:PatsR w HA hs) :
  Calls Tryz.prog 76 #[.agg #[.slice A b.parts.length c,.bool b.rest],.slice HA hs.length hc] w fun e w'=>e=.returned (.bool (void b hs))∧Calm w w':=by
 obtain⟨n,hn⟩:∃n,leastLen b hs=n:=⟨_,rfl⟩
 obtain⟨w1,hw1⟩:∃w1,w1=w.alloc (.cells #[.slice A b.parts.length c,.bool b.rest] 51):=⟨_,rfl⟩
 have hc1:Calm w w1:=by rw[hw1];exact (Calm.refl w).alloc _
 have hcall:=llen_v b hs n A c HA hc w1 hn (hb.calm hc1) (hh.calm hc1)
 have hv:Hid (void b hs=((n:Int) == 0)):=by
  show void b hs=_
  rw[void,hn,Bool.eq_iff_iff]
  simp
 have HW:=Lib.hid hw1
 have HC:=Lib.hid hc1
 clear hn hw1 hc1 hb hh
 go_enter Tryz.func76,Tryz.ntmps76
 go_wp2_with (go_at_call 114;rw[←HW.out];refine hcall.mono ?_;rintro e w2 ⟨rfl,hc2⟩)
 go_ret
 exact⟨ret_bool (by rw[hv.out]),HC.out.trans hc2⟩
set_option maxHeartbeats 400000 in
theorem counts_c (p:Pat) (n:Nat) (A:Option Addr) (c:Nat) (w:World) (hlen:p.parts.length≤16384):Calls Tryz.prog 172 #[.agg #[.slice A p.parts.length c,.bool p.rest],.int .i64 n] w fun e w'=>e=.returned (.bool (reaches p n))∧Calm w w':=by
 obtain⟨m,hm⟩:∃m,p.parts.length=m:=⟨_,rfl⟩
 rw[hm] at hlen ⊢
 cases hr:p.rest with
 |true=>
  have hv:reaches p n=decide ((m:Int) < (n:Int)):=by simp[reaches,hr,hm]
  rw[hv]
  clear hv hr hm
  go_enter Tryz.func172,Tryz.ntmps172
  go_wp2
  go_ret
  exact⟨ret_bool (by simp),(Calm.refl w).alloc _⟩
 |false=>
  have hv:reaches p n=((n:Int) == (m:Int)):=by
   simp only[reaches,hr,hm,Bool.false_eq_true,if_false]
   rw[Bool.eq_iff_iff]
   simp
   omega
  rw[hv]
  clear hv hr hm
  go_enter Tryz.func172,Tryz.ntmps172
  go_wp2
  go_ret
  exact⟨rfl,(Calm.refl w).alloc _⟩
set_option maxHeartbeats 400000 in
theorem rpart_c (p:Pat) (i:Nat) (A:Option Addr) (c:Nat) (w:World) (hi:i≤20000) (hr:StrsR w A p.parts):Calls Tryz.prog 173 #[.agg #[.slice A p.parts.length c,.bool p.rest],.int .i64 i] w fun e w'=>e=.returned (.string (bs (pAt p i)))∧Calm w w':=by
 have hlen:=hr.len
 obtain⟨n,hn⟩:∃n,p.parts.length=n:=⟨_,rfl⟩
 have Hn:=Lib.hid hn
 rw[hn] at hlen
 rw[hn]
 by_cases hlt:i < n
 ·obtain⟨b,o,l,rfl,hb,hl,hll,hcell⟩:=(hr.calm ((Calm.refl w).alloc (.cells #[.slice A n c,.bool p.rest] 51))).get (k:=i) (by rw[hn];exact hlt)
  have hv:pAt p i=l:=by simp[pAt,List.getD_eq_getElem?_getD,hl]
  rw[hv]
  clear hv hl hr hn
  go_enter Tryz.func173,Tryz.ntmps173
  go_wp2
  go_ret
  exact⟨rfl,(Calm.refl w).alloc _⟩
 ·have hv:pAt p i=[42]:=pAt_out (by omega)
  rw[hv]
  clear hv hr hn
  go_enter Tryz.func173,Tryz.ntmps173
  go_wp2
  go_ret
  exact⟨rfl,(Calm.refl w).alloc _⟩
theorem counts_v (p:Pat) (n:Nat) (r:Bool) (A:Option Addr) (c:Nat) (w:World) (hv:reaches p n=r) (hlen:p.parts.length≤16384):Calls Tryz.prog 172 #[.agg #[.slice A p.parts.length c,.bool p.rest],.int .i64 n] w fun e w'=>e=.returned (.bool r)∧Calm w w':=hv ▸ counts_c p n A c w hlen
set_option maxHeartbeats 1000000 in
theorem rcovers_c (h b:Pat) (i n:Nat) (HA:Option Addr) (hc:Nat) (A:Option Addr) (c:Nat) (w:World) (hi:i≤20000) (hn:n≤20000) (hh:StrsR w HA h.parts) (hb:StrsR w A b.parts) (gh:goodPat h) (gb:goodPat b) :
  Calls Tryz.prog 143 #[.agg #[.slice A b.parts.length c,.bool b.rest],.agg #[.slice HA h.parts.length hc,.bool h.rest],.int .i64 i,.int .i64 n] w fun e w'=>e=.returned (.bool (reaches h n && covers h b i n))∧Calm w w':=by
 have hlen:=hh.len
 obtain⟨m,hm⟩:∃m,h.parts.length=m:=⟨_,rfl⟩
 obtain⟨w1,hw1⟩:∃w1,w1=(w.alloc (.cells #[.slice A b.parts.length c,.bool b.rest] 51)).alloc (.cells #[.slice HA m hc,.bool h.rest] 51):=⟨_,rfl⟩
 have hc1:Calm w w1:=by rw[hw1];exact ((Calm.refl w).alloc _).alloc _
 have hs1:w1.heap.size=w.heap.size+2:=by rw[hw1];simp
 have c0:w1.cell? ⟨w.heap.size+1,0,none⟩=some (.slice HA m hc):=by rw[hw1];simp
 have c1:w1.cell? ⟨w.heap.size,0,none⟩=some (.slice A b.parts.length c):=by rw[hw1];simp
 have c2:w1.cell? ⟨w.heap.size,1,none⟩=some (.bool b.rest):=by rw[hw1];simp
 obtain⟨re,hre⟩:∃re,reaches h n=re:=⟨_,rfl⟩
 have hcnt:=counts_v h n re HA hc w1 hre hlen
 rw[hm] at hcnt hlen
 have HC:=Lib.hid hc1
 have HM:=Lib.hid hm
 have HW:=Lib.hid hw1
 have HS:=Lib.hid hs1
 have HRe:=Lib.hid hre
 have HCells:=Lib.hid (And.intro c0 (And.intro c1 c2))
 have HH:=Lib.hid (hh.calm hc1)
 have HB:=Lib.hid (hb.calm hc1)
 rw[hm]
 clear hh hb hm hw1 hc1 hs1 c0 c1 c2 hre
 go_enter Tryz.func143,Tryz.ntmps143
 cases re with
 |false=>
  go_wp2_with (go_at_call 172;rw[←HW.out];refine hcnt.mono ?_;rintro e w2 ⟨rfl,hc2⟩)
  go_ret
  exact⟨ret_bool (by rw[HRe.out];rfl),HC.out.trans hc2⟩
 |true=>
  go_wp2_with (go_at_call 172;rw[←HW.out];refine hcnt.mono ?_;rintro e w2 ⟨rfl,hc2⟩)
  have HC2:=Lib.hid hc2
  clear hcnt hc2
  go_loopw [2] (fun q wr=>∃k:Nat,i≤k∧k≤max i n∧q=.int .i64 k∧Hid (∀j,i≤j→j < k→j < n→j < m→inside (pAt b j) (pAt h j)=true)∧Hid (Calm w1 wr)) (fun q _=>max i n - (intOf q).toNat)
  case atStart=>exact⟨i,Nat.le_refl _,by omega,rfl,fun j h1 h2=>absurd h2 (by omega),HC2.out⟩
  case round=>
   obtain⟨k,hk1,hk2,rfl,HI,HCr⟩:=hrel
   have d0:=HCr.out.at_ HCells.out.1 (by rw[HS.out];omega)
   by_cases hkn:k < n
   ·by_cases hkm:k < m
    ·obtain⟨bb,o,l,rfl,hbb,hl,hll,hcell⟩:=(HH.out.calm HCr.out).get (k:=k) (by rw[HM.out];exact hkm)
     have hpl:pAt h k=l:=by simp[pAt,List.getD_eq_getElem?_getD,hl]
     have hlo:partOk l=true:=by rw[←hpl];exact goodPat_at gh k
     have HP:=Lib.hid hpl
     have e0:∀p:CalmTo wr,p.w.cell? ⟨w.heap.size+1,0,none⟩=some (.slice (some ⟨bb,o,none⟩) m hc):=fun p=>p.cell d0 (Nat.lt_of_lt_of_le (by rw[HS.out];omega) HCr.out.size)
     have e1:∀p:CalmTo wr,p.w.cell? ⟨w.heap.size,0,none⟩=some (.slice A b.parts.length c):=fun p=>p.cell (HCr.out.at_ HCells.out.2.1 (by rw[HS.out];omega)) (Nat.lt_of_lt_of_le (by rw[HS.out];omega) HCr.out.size)
     have e2:∀p:CalmTo wr,p.w.cell? ⟨w.heap.size,1,none⟩=some (.bool b.rest):=fun p=>p.cell (HCr.out.at_ HCells.out.2.2 (by rw[HS.out];omega)) (Nat.lt_of_lt_of_le (by rw[HS.out];omega) HCr.out.size)
     have e3:∀p:CalmTo wr,p.w.cell? ⟨bb,o+k,none⟩=some (.string (bs l)):=fun p=>p.cell hcell hbb
     have K1:=Lib.hid (fun p:CalmTo wr=>rpart_c b k A c p.w (by omega) (HB.out.calm (HCr.out.trans p.h)))
     have K2:=Lib.hid (fun p:CalmTo wr=>rinside_c (pAt b k) l p.w (pAt_len HB.out) hll (goodPat_at gb k) hlo)
     obtain⟨r,hr⟩:∃r,inside (pAt b k) l=r:=⟨_,rfl⟩
     rw[hr] at K2
     have HR:=Lib.hid hr
     clear hl hpl hcell hr hlo
     go_wp2_with fail
     refine wp_region_calm (by kernel_rfl) (by kernel_rfl) ?_
     repeat (go_big_quiet_step ((first | (go_at_call 173;exact calmOf (K1.out _)) | (go_at_call 142;exact calmOfL (K2.out _)))))
     refine wpQuiet_nil ?_
     intro w3 hcw3
     cases r with
     |true=>
      go_wp2
      go_roundw
      case rel=>
       refine⟨k+1,by omega,by omega,by go_num,fun j h1 h2 h3 h4=>?_,HCr.out.trans hcw3⟩
       by_cases e:j=k
       ·subst e
        rw[HP.out]
        exact HR.out
       ·exact HI.out j h1 (by omega) h3 h4
      case measure=>simp[intOf];omega
     |false=>
      go_wp2
      go_ret
      exact⟨ret_bool (by rw[HRe.out,cover_no hk1 hkn (by rw[HM.out];exact hkm) (by rw[HP.out];exact HR.out)];rfl),HC.out.trans (HCr.out.trans hcw3)⟩
    ·have hv:Hid (covers h b i n=true):=covers_true.2 fun j h1 h2 h3=>HI.out j h1 (by rw[HM.out] at h3;omega) h2 (by rw[HM.out] at h3;exact h3)
     go_wp2
     go_ret
     exact⟨ret_bool (by rw[HRe.out,hv.out];rfl),HC.out.trans HCr.out⟩
   ·have hv:Hid (covers h b i n=true):=covers_true.2 fun j h1 h2 h3=>HI.out j h1 (by omega) h2 (by rw[HM.out] at h3;exact h3)
    go_wp2
    go_ret
    exact⟨ret_bool (by rw[HRe.out,hv.out];rfl),HC.out.trans HCr.out⟩
theorem rcovers_v (h b:Pat) (i n:Nat) (r:Bool) (HA:Option Addr) (hc:Nat) (A:Option Addr) (c:Nat) (w:World) (hv:(reaches h n && covers h b i n)=r) (hi:i≤20000) (hn:n≤20000) (hh:StrsR w HA h.parts) (hb:StrsR w A b.parts) (gh:goodPat h) (gb:goodPat b) :
  Calls Tryz.prog 143 #[.agg #[.slice A b.parts.length c,.bool b.rest],.agg #[.slice HA h.parts.length hc,.bool h.rest],.int .i64 i,.int .i64 n] w fun e w'=>e=.returned (.bool r)∧Calm w w':=hv ▸ rcovers_c h b i n HA hc A c w hi hn hh hb gh gb
set_option maxHeartbeats 1000000 in
theorem full_c (b:Pat) (hs:List Pat) (n:Nat) (A:Option Addr) (c:Nat) (HA:Option Addr) (hc:Nat) (w:World) (hn:n≤20000) (hb:StrsR w A b.parts) (hh:PatsR w HA hs) (gb:goodPat b) (gh:∀h∈hs,goodPat h) :
  Calls Tryz.prog 100 #[.agg #[.slice A b.parts.length c,.bool b.rest,.slice HA hs.length hc],.int .i64 n] w fun e w'=>e=.returned (.bool (full b hs n))∧Calm w w':=by
 have hlen:=hh.len
 obtain⟨hn2,hhn⟩:∃hn2,hs.length=hn2:=⟨_,rfl⟩
 rw[hhn] at hlen
 obtain⟨w1,hw1⟩:∃w1,w1=w.alloc (.cells #[.slice A b.parts.length c,.bool b.rest,.slice HA hn2 hc] 67):=⟨_,rfl⟩
 have hc1:Calm w w1:=by rw[hw1];exact (Calm.refl w).alloc _
 have hs1:w.heap.size < w1.heap.size:=by rw[hw1];simp
 have k0:w1.cell? ⟨w.heap.size,0,none⟩=some (.slice A b.parts.length c):=by rw[hw1];simp
 have k1:w1.cell? ⟨w.heap.size,1,none⟩=some (.bool b.rest):=by rw[hw1];simp
 have k2:w1.cell? ⟨w.heap.size,2,none⟩=some (.slice HA hn2 hc):=by rw[hw1];simp
 have HW:=Lib.hid hw1
 have HC:=Lib.hid hc1
 have Hhn:=Lib.hid hhn
 have HK:=Lib.hid (And.intro hs1 (And.intro k0 (And.intro k1 k2)))
 have HB:=Lib.hid (hb.calm hc1)
 have HH:=Lib.hid (hh.calm hc1)
 have HG:=Lib.hid gh
 rw[hhn]
 clear hw1 hc1 hhn hs1 k0 k1 k2 hb hh gh
 go_enter Tryz.func100,Tryz.ntmps100
 go_wp2_with fail
 rw[←HW.out]
 go_loopw [10] (fun q wr=>∃k:Nat,k≤hn2∧q=.int .i64 k∧Hid (∀j h,j < k→hs[j]?=some h→(reaches h n && covers h b 0 n)=false)∧Hid (Calm w1 wr)) (fun q _=>hn2 - (intOf q).toNat)
 case atStart=>exact⟨0,Nat.zero_le _,rfl,fun j h hj=>absurd hj (Nat.not_lt_zero _),Calm.refl _⟩
 case round=>
  obtain⟨k,hk,rfl,HI,HCr⟩:=hrel
  by_cases hlt:k < hn2
  ·obtain⟨bb,o,p,Ak,ck,rfl,hbb,hpk,h1,h2,h3,h4,h5⟩:=(HH.out.calm HCr.out).get (k:=k) (by rw[Hhn.out];exact hlt)
   have l0:=HCr.out.at_ HK.out.2.1 HK.out.1
   have l1:=HCr.out.at_ HK.out.2.2.1 HK.out.1
   have ls:w.heap.size < wr.heap.size:=Nat.lt_of_lt_of_le HK.out.1 HCr.out.size
   have HPk:=Lib.hid hpk
   have H5:=Lib.hid h5
   have gp:=HG.out p (List.mem_of_getElem? hpk)
   obtain⟨r,hr⟩:∃r,(reaches p n && covers p b 0 n)=r:=⟨_,rfl⟩
   have HR:=Lib.hid hr
   clear hpk h5 hr
   cases r with
   |true=>
    go_wp2_with (go_at_call 143;refine (rcovers_v p b 0 n true _ _ _ _ _ HR.out (by omega) hn (H5.out.calm ((Calm.refl _).alloc _)) ((HB.out.calm HCr.out).calm ((Calm.refl _).alloc _)) gp gb).mono ?_;rintro e w3 ⟨rfl,hc3⟩)
    go_ret
    have hv:full b hs n=true:=List.any_eq_true.2 ⟨p,List.mem_of_getElem? HPk.out,HR.out⟩
    exact⟨ret_bool hv.symm,HC.out.trans (HCr.out.trans (((Calm.refl _).alloc _).trans hc3))⟩
   |false=>
    go_wp2_with (go_at_call 143;refine (rcovers_v p b 0 n false _ _ _ _ _ HR.out (by omega) hn (H5.out.calm ((Calm.refl _).alloc _)) ((HB.out.calm HCr.out).calm ((Calm.refl _).alloc _)) gp gb).mono ?_;rintro e w3 ⟨rfl,hc3⟩)
    go_roundw
    case rel=>exact⟨k+1,by omega,by go_num,none_step (pr:=fun h=>reaches h n && covers h b 0 n) HPk.out HR.out HI.out,HCr.out.trans (((Calm.refl _).alloc _).trans hc3)⟩
    case measure=>simp[intOf];omega
  ·have hv:Hid (full b hs n=false):=by
    show full b hs n=false
    rw[full,List.any_eq_false]
    intro h hm
    obtain⟨j,hj,e⟩:=List.mem_iff_getElem.1 hm
    rw[HI.out j h (by rw[Hhn.out] at hj;omega) (by rw[List.getElem?_eq_getElem hj,e])]
    simp
   go_wp2
   go_ret
   exact⟨ret_bool hv.out.symm,HC.out.trans HCr.out⟩
theorem full_v (b:Pat) (hs:List Pat) (n:Nat) (r:Bool) (A:Option Addr) (c:Nat) (HA:Option Addr) (hc:Nat) (w:World) (hv:full b hs n=r) (hn:n≤20000) (hb:StrsR w A b.parts) (hh:PatsR w HA hs) (gb:goodPat b) (gh:∀h∈hs,goodPat h) :
  Calls Tryz.prog 100 #[.agg #[.slice A b.parts.length c,.bool b.rest,.slice HA hs.length hc],.int .i64 n] w fun e w'=>e=.returned (.bool r)∧Calm w w':=hv ▸ full_c b hs n A c HA hc w hn hb hh gb gh
set_option maxHeartbeats 2000000 in
theorem rlen_c (b:Pat) (hs:List Pat) (A:Option Addr) (c:Nat) (HA:Option Addr) (hc:Nat) (w:World) (hb:StrsR w A b.parts) (hh:PatsR w HA hs) (gb:goodPat b) (gh:∀h∈hs,goodPat h) :
  Calls Tryz.prog 61 #[.agg #[.slice A b.parts.length c,.bool b.rest,.slice HA hs.length hc]] w fun e w'=>e=.returned (.int .i64 (leastLen b hs))∧Calm w w':=by
 have hlen:=hb.len
 have hhl:=hh.len
 have hls:=hh.lens
 have hbd:=lastTo_bound (b:=b) (hs:=hs) hlen hls
 obtain⟨m,hm⟩:∃m,b.parts.length=m:=⟨_,rfl⟩
 obtain⟨hn,hhn⟩:∃hn,hs.length=hn:=⟨_,rfl⟩
 obtain⟨re,hre⟩:∃re,b.rest=re:=⟨_,rfl⟩
 obtain⟨w1,hw1⟩:∃w1,w1=w.alloc (.cells #[.slice A m c,.bool re,.slice HA hn hc] 67):=⟨_,rfl⟩
 have hc1:Calm w w1:=by rw[hw1];exact (Calm.refl w).alloc _
 have hs1:w.heap.size < w1.heap.size:=by rw[hw1];simp
 have k0:w1.cell? ⟨w.heap.size,0,none⟩=some (.slice A m c):=by rw[hw1];simp
 have k1:w1.cell? ⟨w.heap.size,1,none⟩=some (.bool re):=by rw[hw1];simp
 have k2:w1.cell? ⟨w.heap.size,2,none⟩=some (.slice HA hn hc):=by rw[hw1];simp
 have HFull:Hid (∀(W:World),Calm w1 W→∀n r,n≤20000→full b hs n=r→Calls Tryz.prog 100 #[.agg #[.slice A m c,.bool re,.slice HA hn hc],.int .i64 (n:Nat)] W fun e w'=>e=.returned (.bool r)∧Calm W w'):=fun W hW n r hn hr=>by
  have:=full_v b hs n r A c HA hc W hr hn ((hb.calm hc1).calm hW) ((hh.calm hc1).calm hW) gb gh
  rw[hm,hre,hhn] at this
  exact this
 rw[hm] at hlen hbd
 rw[hhn] at hhl
 have HC:=Lib.hid hc1
 have HW:=Lib.hid hw1
 have HM:=Lib.hid hm
 have Hhn:=Lib.hid hhn
 have HRe:=Lib.hid hre
 have HK:=Lib.hid (And.intro hs1 (And.intro k0 (And.intro k1 k2)))
 have HH:=Lib.hid (hh.calm hc1)
 have HBd:=Lib.hid hbd
 rw[hm,hhn,hre]
 clear hb hh hm hhn hw1 hc1 hs1 k0 k1 k2 hls hbd hre gb gh
 go_enter Tryz.func61,Tryz.ntmps61
 cases re with
 |false=>
  obtain⟨r,hr⟩:∃r,full b hs m=r:=⟨_,rfl⟩
  have hv:Hid (leastLen b hs=if r then 0 else m):=by
   show leastLen b hs=_
   unfold leastLen firstLen lastLen
   rw[HRe.out,if_neg (by simp),if_neg (by simp),HM.out,show m+1 - m=1 by omega]
   cases r with
   |true=>rw[seek_go hr (by omega)];rfl
   |false=>rw[seek_stop hr (by omega)];rfl
  have hcall:=HFull.out w1 (Calm.refl _) m r (by omega) hr
  have l0:=HK.out.2.1
  have ls:=HK.out.1
  clear hr HFull
  cases r with
  |true=>
   go_wp2_with (go_at_call 100;rw[←HW.out];refine hcall.mono ?_;rintro e w2 ⟨rfl,hc2⟩)
   go_ret
   exact⟨ret_int (by rw[hv.out];rfl),HC.out.trans hc2⟩
  |false=>
   go_wp2_with (go_at_call 100;rw[←HW.out];refine hcall.mono ?_;rintro e w2 ⟨rfl,hc2⟩;have l2:=hc2.at_ l0 ls)
   go_ret
   exact⟨ret_int (by rw[hv.out];rfl),HC.out.trans hc2⟩
 |true=>
  go_wp2_with fail
  rw[←HW.out]
  go_loopw [3,28] (fun t q wr=>∃k T:Nat,k≤hn∧q=.int .i64 k∧t=.int .i64 T∧T≤16384∧m≤T∧Hid (lastTo b hs k=T+1)∧Hid (Calm w1 wr)) (fun _ q _=>hn - (intOf q).toNat)
  case atStart=>exact⟨0,m,Nat.zero_le _,rfl,rfl,hlen,Nat.le_refl _,by show lastTo b hs 0=m+1;simp[lastTo,HM.out],Calm.refl _⟩
  case round=>
   obtain⟨k,T,hk,rfl,rfl,hT1,hT2,HLT,HCr⟩:=hrel
   by_cases hlt:k < hn
   ·obtain⟨bb,o,p,Ak,ck,rfl,_,hpk,h1,h2,h3,h4,h5⟩:=(HH.out.calm HCr.out).get (k:=k) (by rw[Hhn.out];exact hlt)
    have hpl:=h5.len
    have hst:=lastTo_succ (b:=b) hpk
    rw[HLT.out] at hst
    have HST:=Lib.hid hst
    clear hst h5 hpk
    go_wp2
    go_roundw
    case rel=>exact⟨k+1,max T p.parts.length,by omega,by go_num,congrArg (Value.int .i64) (by omega),by omega,by omega,(by show lastTo b hs (k+1)=_;rw[HST.out];omega),HCr.out.alloc _⟩
    case measure=>simp[intOf];omega
   ·have hk2:k=hs.length:=by rw[Hhn.out];omega
    have hle:Hid (leastLen b hs=seek b hs (m+1) (T+2 - (m+1))):=by
     show leastLen b hs=_
     have hl2:lastLen b hs=T+1:=by
      have:=HLT.out
      rw[lastTo,hk2,List.take_length] at this
      rw[lastLen,if_pos HRe.out,this]
     have hf2:firstLen b=m+1:=by rw[firstLen,if_pos HRe.out,HM.out]
     rw[leastLen,hl2,hf2]
    have l0:=HCr.out.at_ HK.out.2.1 HK.out.1
    have ls:w.heap.size < wr.heap.size:=Nat.lt_of_lt_of_le HK.out.1 HCr.out.size
    clear HLT hk2
    have HCX:=HCr
    go_wp2_with fail
    go_loopw [6] (fun q wr=>∃n:Nat,n≤T+2∧q=.int .i64 n∧Hid (leastLen b hs=seek b hs n (T+2 - n))∧Hid (Calm w1 wr)) (fun q _=>T+2 - (intOf q).toNat)
    case atStart=>exact⟨m+1,by omega,by go_num,hle,HCX.out⟩
    case round=>
     obtain⟨n,hn1,rfl,HSk,HCr2⟩:=hrel
     have l0:=HCr2.out.at_ HK.out.2.1 HK.out.1
     have l1:=HCr2.out.at_ HK.out.2.2.1 HK.out.1
     have l2:=HCr2.out.at_ HK.out.2.2.2 HK.out.1
     by_cases hnl:n≤T+1
     ·obtain⟨r,hr⟩:∃r,full b hs n=r:=⟨_,rfl⟩
      have hcall:=HFull.out _ HCr2.out n r (by omega) hr
      have HR:=Lib.hid hr
      clear hr
      cases r with
      |true=>
       go_wp2_with (go_at_call 100;refine hcall.mono ?_;rintro e w3 ⟨rfl,hc3⟩)
       go_roundw
       case rel=>exact⟨n+1,by omega,by go_num,(by show leastLen b hs=_;rw[HSk.out,seek_go HR.out (by omega)];congr 1),HCr2.out.trans hc3⟩
       case measure=>simp[intOf];omega
      |false=>
       go_wp2_with (go_at_call 100;refine hcall.mono ?_;rintro e w3 ⟨rfl,hc3⟩)
       go_ret
       exact⟨ret_int (by rw[HSk.out,seek_stop HR.out (by omega)]),HC.out.trans (HCr2.out.trans hc3)⟩
     ·have hz:Hid (leastLen b hs=0):=by
       show leastLen b hs=0
       rw[HSk.out,show T+2 - n=0 by omega]
       rfl
      clear HSk
      go_wp2
      go_ret
      exact⟨ret_int (by rw[hz.out];rfl),HC.out.trans HCr2.out⟩
def RowAt (w:World) (B n:Nat) (ls:List Str):Prop:=∃cs:Array Value,w.heap[B]?=some (.cells cs 9 (0,0))∧cs.size=n∧∀(j:Nat) (l:Str),ls[j]?=some l→cs[j]?=some (Value.string (bs l))
theorem RowAt.keep {w w':World} {B n:Nat} {ls:List Str} (h:RowAt w B n ls) (hk:w'.heap[B]?=w.heap[B]?):RowAt w' B n ls:=by
 obtain⟨cs,h1,h2,h3⟩:=h
 exact⟨cs,hk.trans h1,h2,h3⟩
theorem RowAt.calm {w w':World} {B n:Nat} {ls:List Str} (h:RowAt w B n ls) (hc:Calm w w') (hB:B < w.heap.size):RowAt w' B n ls:=h.keep (hc.block B hB)
theorem RowAt.made (w:World) (n:Nat):RowAt (w.alloc (.cells (madeCells #[.string ByteArray.empty] n) 9)) w.heap.size n []:=
 ⟨_,heap_alloc_new w _,size_madeCells _ _,fun j l h=>by simp at h⟩
theorem RowAt.cell {w:World} {B n:Nat} {ls:List Str} (h:RowAt w B n ls) {j:Nat} {l:Str} (hj:ls[j]?=some l):w.cell? ⟨B,j,none⟩=some (.string (bs l)):=by
 obtain⟨cs,h1,h2,h3⟩:=h
 rw[cell_of_row w B j cs _ _ h1]
 exact h3 j l hj
theorem RowAt.free {w:World} {B n:Nat} {ls:List Str} (h:RowAt w B n ls) (j:Nat):w.frozen? ⟨B,j,none⟩=false:=by
 obtain⟨cs,h1,_,_⟩:=h
 simp[World.frozen?,h1]
theorem RowAt.set {w:World} {B n:Nat} {ls:List Str} (h:RowAt w B n ls) {i:Nat} (hi:i=ls.length) (hn:i < n) (x:Str):RowAt (w.setCell ⟨B,i,none⟩ (.string (bs x))) B n (ls++[x]):=by
 obtain⟨cs,h1,h2,h3⟩:=h
 refine⟨cs.setIfInBounds i (.string (bs x)),?_,by simpa using h2,fun j l hj=>?_⟩
 ·simp[World.setCell,Array.getElem?_modify,h1]
 ·by_cases e:j=i
  ·subst e
   rw[hi,List.getElem?_append_right (Nat.le_refl _)] at hj
   simp at hj
   subst hj
   simp[h2,hn]
  ·have hjl:j < ls.length:=by
    have:=(List.getElem?_eq_some_iff.1 hj).1
    simp at this
    omega
   rw[List.getElem?_append_left hjl] at hj
   rw[Array.getElem?_setIfInBounds_ne (Ne.symm e)]
   exact h3 j l hj
structure Inner (w1:World) (Bk Bi Bc n i:Nat) (ls:List Str) (y:Nat) (w:World):Prop where
 calm:Calm w1 w
 row:RowAt w Bk n ls
 ci:w.heap[Bi]?=some (.cells #[.int .i64 i] 3 (0,0))
 cc:w.heap[Bc]?=some (.cells #[.int .u64 y] 237 (0,0))
 o1:w1.heap.size≤Bk
 o2:Bk < Bi
 o3:Bi < Bc
 o4:Bc < w.heap.size
section
variable {w1 w w':World} {Bk Bi Bc n i y:Nat} {ls:List Str}
theorem Inner.next (h:Inner w1 Bk Bi Bc n i ls y w) (hc:Calm w w'):Inner w1 Bk Bi Bc n i ls y w':=
 ⟨h.calm.trans hc,h.row.calm hc (by have:=h.o2;have:=h.o3;have:=h.o4;omega),(hc.block Bi (by have:=h.o3;have:=h.o4;omega)).trans h.ci,(hc.block Bc h.o4).trans h.cc,h.o1,h.o2,h.o3,Nat.lt_of_lt_of_le h.o4 hc.size⟩
theorem Inner.drewN (h:Inner w1 Bk Bi Bc n i ls y w) (m:Nat):Inner w1 Bk Bi Bc n i ls y (w.drewN m):=h.next ((Calm.refl w).drewN m)
end
end Go.Proofs.YtdcdabbepnahnaaGreatDoor
