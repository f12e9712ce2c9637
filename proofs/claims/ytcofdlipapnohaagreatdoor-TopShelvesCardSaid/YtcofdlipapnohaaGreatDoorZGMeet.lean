/- Appends of whole slices of structs to rows of the call's own; slices of patterns read as places. -/
import Derived.Lib.AppendZeros
import Derived.Lib.SliceRun
import Derived.IntWalk
import Derived.Deep.RegionHeld3
import Derived.Deep.RegionWith
import Derived.OneCell
import Derived.Laws.Rows
import Derived.Deep.OwnRows
import Derived.Deep.DeepCutAuto
import Derived.Test.YtcofdlipapnohaaGreatDoorZRSameG
import Derived.Test.YtcofdlipapnohaaGreatDoorZEdRow
import Derived.Test.YtcofdlipapnohaaGreatDoorZWalkM
import Derived.Test.YtcofdlipapnohaaGreatDoorZNewS
import Derived.Test.YtcofdlipapnohaaGreatDoorZRuleW
import Derived.Test.YtcofdlipapnohaaGreatDoorZRed3W
set_option linter.unusedVariables false
set_option linter.unusedSimpArgs false
namespace Go.Proofs.YtcofdlipapnohaaGreatDoor
open Go Go.RowKit Sy
theorem own_room {w:World} {cur:Array Value} {cap:Nat} (hm:cap≤maxLen) (hs:cur.size=cap * 2):OwnX encP 2 65 w (w.drew.alloc (.cells cur 65)) (.slice (some ⟨w.heap.size,0,none⟩) 0 cap) []:=
 ⟨Below.alloc (Below.drew (Calm.refl w)) (Below.drew (Calm.refl w)).size _,by
  have:=World.ownsRow_made (base:=w.heap.size) (e:=65) (size:=2) w.drew cur cap (Nat.le_refl _) hm hs
  exact this⟩
def GrowEnd (w:World) (e:Ending) (w':World):Prop:=∃A c,e=.returned (.slice A 0 c)∧OwnX encP 2 65 w w' (.slice A 0 c) []
set_option maxRecDepth 100000 in
set_option maxHeartbeats 2000000 in
theorem grow_c (n:Nat) (w:World) (hn:n≤1000000):Calls Tryz.prog 237 #[.slice none 0 0,.int .i64 n] w fun e w'=>GrowEnd w e w':=by
 rcases Nat.eq_zero_or_pos n with rfl | h0
 ·go_enter Tryz.func237,Tryz.ntmps237
  go_wp2
  go_ret
  exact⟨none,0,rfl,OwnX.nil (Calm.refl w)⟩
 ·obtain⟨i0,hi0,hz0,hz1,hz2⟩:=info_parts info_patE
  have hr:=fun ty=>Lib.run_append_nil_zeros (P:=Tryz.prog) w 212 3 ty 65 i0 _ .i64 .i64 Tryz.underlying212 Tryz.underlying3 hi0 hz0 n h0 (by rw[hz1];decide) (by omega) (by rw[hz2];omega)
  have hge:=grownCap_ge w n 0 65
  have hle:=grownCap_le_maxLen w n 0 65 (by unfold maxLen;omega)
  obtain⟨G,hG⟩:∃G,grownCap w n 0 65=G:=⟨_,rfl⟩
  rw[hG] at hge hle hr
  obtain⟨cur,hcur⟩:∃cur,cur=Builtin.zeroCells (Value.agg #[.slice none 0 0,.bool false]).cells n++Builtin.zeroCells (Value.agg #[.slice none 0 0,.bool false]).cells (G - n):=⟨_,rfl⟩
  have hcs:cur.size=G * 2:=by
   rw[hcur]
   simp[Builtin.zeroCells,Value.cells]
   omega
  rw[←hcur] at hr
  have HO:=Lib.hid (own_room (w:=w) (cur:=cur) hle hcs)
  have hG63:G≤9223372036854775807:=by unfold maxLen at hle;omega
  clear hG hcur hcs hle
  go_enter Tryz.func237,Tryz.ntmps237
  go_wp2_with (at_builtin;refine Lib.wpList_append_run _ rfl _ _ _ _ rfl _ _ rfl rfl _ _ (hr _) ?_)
  go_ret
  exact⟨_,_,rfl,HO.out⟩
def CatEnd (ps:List Pat) (w:World) (e:Ending) (w':World):Prop:=∃A c,e=.returned (.slice A ps.length c)∧PatsR w' A ps
set_option maxHeartbeats 4000000 in
theorem concat_c (ps qs:List Pat) (A A':Option Addr) (n m c c':Nat) (g cc:Nat) (w:World) (hp:PatsR w A ps) (hq:PatsR w A' qs) (hn:ps.length=n) (hm:qs.length=m) (hl:n+m≤16384)
  (k0:w.cell? ⟨g,0,none⟩=some (.slice A n c)) (k1:w.cell? ⟨g,1,none⟩=some (.slice A' m c')) (hg:g < w.heap.size) :
  Calls Tryz.prog 210 #[.slice (some ⟨g,0,none⟩) 2 cc] w fun e w'=>CatEnd (ps++qs) w e w'∧Calm w w':=by
 obtain⟨lp,hlp,hX⟩:=hp.places
 obtain⟨lq,hlq,hY⟩:=hq.places
 have e1:lp.length=n:=by rw[←hn,←hlp,List.length_map]
 have e2:lq.length=m:=by rw[←hm,←hlq,List.length_map]
 have HX:=Lib.hid (And.intro hX (And.intro hY (And.intro e1 e2)))
 have HL:=Lib.hid (And.intro hlp hlq)
 have KG:=Lib.hid (fun W=>grow_c (n+m) W (by omega))
 have z1:IntKind.i64.wrap ((0:Int)+(n:Int))=(n:Int):=IntWalk.i64_in _ (by omega) |>.trans (by omega)
 have z2:IntKind.i64.wrap ((n:Int)+(m:Int))=((n+m:Nat):Int):=by rw[IntWalk.i64_in _ (by omega)];omega
 have HK:=Lib.hid (And.intro k0 (And.intro k1 hg))
 clear hp hq hX hY e1 e2 hlp hlq hn hm
 go_enter Tryz.func210,Tryz.ntmps210
 go_wp2_with fail
 go_loopw [3,11] (fun s i wr=>w=wr∧((i=.int .i64 0∧s=.int .i64 0)∨(i=.int .i64 1∧s=.int .i64 n)∨(i=.int .i64 2∧s=.int .i64 ((n+m:Nat):Int)))) (fun _ i _=>2 - (intOf i).toNat)
 case atStart=>exact⟨rfl,.inl ⟨rfl,rfl⟩⟩
 case round=>
  obtain⟨rfl,hrel⟩:=hrel
  rcases hrel with⟨rfl,rfl⟩ | ⟨rfl,rfl⟩ | ⟨rfl,rfl⟩
  ·go_wp2
   go_roundw
   case rel=>exact⟨trivial,.inr (.inl ⟨by go_num,by go_num⟩)⟩
   case measure=>simp[intOf]
  ·go_wp2
   go_roundw
   case rel=>exact⟨trivial,.inr (.inr ⟨by go_num,by go_num⟩)⟩
   case measure=>simp[intOf]
  ·go_wp2_with (go_at_call 237;refine (KG.out _).mono ?_;rintro e w2 ⟨AG,cG,rfl,hOG⟩)
   have HOG:=Lib.hid hOG
   clear hOG z1 z2 k0 k1
   go_loopw [6,27] (fun s i wr=>(i=.int .i64 0∧Hid (OwnX encP 2 65 w wr s []))∨(i=.int .i64 1∧Hid (OwnX encP 2 65 w wr s lp))∨(i=.int .i64 2∧Hid (OwnX encP 2 65 w wr s (lp++lq)))) (fun _ i _=>2 - (intOf i).toNat)
   case atStart=>exact .inl ⟨rfl,HOG.out⟩
   case round=>
    rcases hrel with⟨rfl,HO⟩ | ⟨rfl,HO⟩ | ⟨rfl,HO⟩
    ·have k0:=Calm.at_ HO.out.calm HK.out.1 HK.out.2.2
     have hgr:=Nat.lt_of_lt_of_le HK.out.2.2 HO.out.calm.size
     go_wp2_with (at_builtin;refine wpList_append_ps rfl (.tmp 31) (.tmp 32) rfl w u6 [] lp rfl HO.out A n c rfl HX.out.2.2.1 (HX.out.1.read.calm HO.out.calm) (by simp;omega) ?_;intro v6 w6 hown6 hgr6)
     have H6:=Lib.hid hown6
     clear hown6 hgr6 k0 hgr
     go_wp2
     go_roundw
     case rel=>exact .inr (.inl ⟨by go_num,Lib.hid (by simpa using H6.out)⟩)
     case measure=>simp[intOf]
    ·have k1:=Calm.at_ HO.out.calm HK.out.2.1 HK.out.2.2
     have hgr:=Nat.lt_of_lt_of_le HK.out.2.2 HO.out.calm.size
     go_wp2_with (at_builtin;refine wpList_append_ps rfl (.tmp 31) (.tmp 32) rfl w u6 lp lq rfl HO.out A' m c' rfl HX.out.2.2.2 (HX.out.2.1.read.calm HO.out.calm) (by rw[HX.out.2.2.1];omega) ?_;intro v6 w6 hown6 hgr6)
     have H6:=Lib.hid hown6
     clear hown6 hgr6 k1 hgr
     go_wp2
     go_roundw
     case rel=>exact .inr (.inr ⟨by go_num,H6.out⟩)
     case measure=>simp[intOf]
    ·have he:∀x∈lp++lq,PatA wr x.A x.c x.p:=fun x hx=>by
      rcases List.mem_append.1 hx with h | h
      ·exact (HX.out.1.each x h).calm HO.out.calm
      ·exact (HX.out.2.1.each x h).calm HO.out.calm
     obtain⟨A9,c9,rfl,_,_,hX9⟩:=HO.out.places he
     have hlen:(lp++lq).length=n+m:=by rw[List.length_append,HX.out.2.2.1,HX.out.2.2.2]
     have hE:Hid (CatEnd (ps++qs) w (.returned (.slice A9 (n+m) c9)) wr):=by
      refine⟨A9,c9,?_,?_⟩
      ·rw[←hlen,←HL.out.1,←HL.out.2,←List.map_append,List.length_map]
      ·have:=hX9.reads (by rw[hlen];omega)
       rw[List.map_append,HL.out.1,HL.out.2] at this
       exact this
     rw[hlen]
     have HC:=Lib.hid HO.out.calm
     clear hlen he hX9
     go_wp2
     go_ret
     exact⟨hE.out,HC.out⟩
set_option maxHeartbeats 1000000 in
theorem gcheck_c (b:Pat) (hs:List Pat) (A:Option Addr) (c:Nat) (HA:Option Addr) (hc:Nat) (w:World) (hr:StrsR w A b.parts) (hnc:b.parts.length≤c) (hc47:c≤9223372036854775807) (hh:PatsR w HA hs) :
  Calls Tryz.prog 236 #[.agg #[.slice A b.parts.length c,.bool b.rest,.slice HA hs.length hc]] w fun e w'=>e=.returned (.int .i64 (regErr b hs))∧Calm w w':=by
 have hlen:=hh.len
 obtain⟨n,hn⟩:∃n,hs.length=n:=⟨_,rfl⟩
 have Hn:=Lib.hid hn
 rw[hn] at hlen
 rw[hn]
 obtain⟨pe,hpe⟩:∃pe,patErr b=pe:=⟨_,rfl⟩
 obtain⟨w1,hw1⟩:∃w1,w1=w.alloc (.cells #[.slice A b.parts.length c,.bool b.rest,.slice HA n hc] 214):=⟨_,rfl⟩
 have hc1:Calm w w1:=by rw[hw1];exact (Calm.refl w).alloc _
 have hbox:w1.cell? ⟨w.heap.size,2,none⟩=some (.slice HA n hc):=by rw[hw1];simp
 have hbs:w.heap.size < w1.heap.size:=by rw[hw1];simp
 have hcall:=pcheck_v b pe A c w1 hpe (hr.calm hc1) hnc hc47
 have HH:=Lib.hid (hh.calm hc1)
 have HC:=Lib.hid hc1
 have HP:=Lib.hid hpe
 have HW:=Lib.hid hw1
 have HB:=Lib.hid hbox
 have HBS:=Lib.hid hbs
 clear hn hr hh hpe hw1 hc1 hbox hbs
 go_enter Tryz.func236,Tryz.ntmps236
 by_cases hb0:pe=0
 ·subst hb0
  have HPB:Hid (patErr b=0):=HP.out
  go_wp2_with (go_at_call 197;rw[←HW.out];refine hcall.mono ?_;rintro e w2 ⟨rfl,hcw2⟩;have hbox2:w2.cell? ⟨w.heap.size,2,none⟩=some (.slice HA n hc):=(hcw2.cell (p:=⟨w.heap.size,2,none⟩) HBS.out).trans HB.out)
  have HC2:=Lib.hid hcw2
  clear hcall hcw2 hbox2
  go_loopw [12] (fun i wr=>∃k:Nat,k≤n∧i=.int .i64 k∧Hid (∀j h,j < k→hs[j]?=some h→patErr h=0)∧Hid (Calm w1 wr)) (fun i _=>n - (intOf i).toNat)
  case atStart=>exact⟨0,Nat.zero_le _,rfl,fun j h hj=>absurd hj (Nat.not_lt_zero _),HC2.out⟩
  case round=>
   obtain⟨k,hk,rfl,HG,HCr⟩:=hrel
   by_cases hlt:k < n
   ·obtain⟨bb,o,p,Ak,ck,rfl,_,hp,h1,h2,h3,h4,h5⟩:=(HH.out.calm HCr.out).get (k:=k) (by rw[Hn.out];exact hlt)
    have HP:=Lib.hid hp
    have H5:=Lib.hid h5
    obtain⟨v,hv⟩:∃v,patErr p=v:=⟨_,rfl⟩
    have HV:=Lib.hid hv
    clear hp h5 hv
    by_cases hv0:v=0
    ·subst hv0
     go_wp2_with (go_at_call 197;refine (pcheck_v _ _ _ _ _ HV.out (H5.out.calm (((Calm.refl _).alloc _))) h3 h4).mono ?_;rintro e w3 ⟨rfl,hcw3⟩)
     go_roundw
     case rel=>exact⟨k+1,by omega,by go_num,good_holes HP.out HV.out HG.out,HCr.out.trans (((Calm.refl _).alloc _).trans hcw3)⟩
     case measure=>simp[intOf];omega
    ·have hvb:(v != 0)=true:=by simpa using hv0
     have hE:Hid (regErr b hs=51):=regErr_hole HPB.out HP.out (by rw[HV.out];exact hv0)
     clear hv0
     go_wp2_with (go_at_call 197;refine (pcheck_v _ _ _ _ _ HV.out (H5.out.calm (((Calm.refl _).alloc _))) h3 h4).mono ?_;rintro e w3 ⟨rfl,hcw3⟩)
     go_ret
     exact⟨ret_int hE.out.symm,HC.out.trans (HCr.out.trans (((Calm.refl _).alloc _).trans hcw3))⟩
   ·have hbr:wr.cell? ⟨w.heap.size,2,none⟩=some (.slice HA n hc):=(HCr.out.cell (p:=⟨w.heap.size,2,none⟩) HBS.out).trans HB.out
    have hE:Hid (regErr b hs=if 64 < n then 52 else 0):=by
     show regErr b hs=_
     rw[regErr_end HPB.out (fun j h hj=>HG.out j h (by rw[Hn.out] at hj;omega)),Hn.out]
    by_cases h64:64 < n
    ·go_wp2
     go_ret
     exact⟨ret_int (by rw[hE.out,if_pos h64]),HC.out.trans HCr.out⟩
    ·go_wp2
     go_ret
     exact⟨ret_int (by rw[hE.out,if_neg h64]),HC.out.trans HCr.out⟩
 ·have hv:Hid (regErr b hs=50):=regErr_base (by rw[HP.out];exact hb0)
  have hbb:(pe != 0)=true:=by simpa using hb0
  clear hb0
  go_wp2_with (go_at_call 197;rw[←HW.out];refine hcall.mono ?_;rintro e w2 ⟨rfl,hcw2⟩)
  go_ret
  exact⟨ret_int hv.out.symm,HC.out.trans hcw2⟩
def RowAt (w:World) (B n:Nat) (ls:List Str):Prop:=∃cs:Array Value,w.heap[B]?=some (.cells cs 9 (0,0))∧cs.size=n∧∀(j:Nat) (l:Str),ls[j]?=some l→cs[j]?=some (Value.string (bs l))
theorem RowAt.keep {w w':World} {B n:Nat} {ls:List Str} (h:RowAt w B n ls) (hk:w'.heap[B]?=w.heap[B]?):RowAt w' B n ls:=by
 obtain⟨cs,h1,h2,h3⟩:=h
 exact⟨cs,hk.trans h1,h2,h3⟩
theorem RowAt.calm {w w':World} {B n:Nat} {ls:List Str} (h:RowAt w B n ls) (hc:Calm w w') (hB:B < w.heap.size):RowAt w' B n ls:=h.keep (hc.block B hB)
theorem RowAt.made (w:World) (n:Nat):RowAt (w.alloc (.cells (madeCells #[.string ByteArray.empty] n) 9)) w.heap.size n []:=
 ⟨_,heap_alloc_new w _,size_madeCells _ _,fun j l h=>by simp at h⟩
theorem RowAt.cell {w:World} {B n:Nat} {ls:List Str} (h:RowAt w B n ls) {j:Nat} {l:Str} (hj:ls[j]?=some l):w.cell? ⟨B,j,none⟩=some (.string (bs l)):=by
 obtain⟨cs,h1,h2,h3⟩:=h
 rw[cell_of_row w B j cs _ _ h1]
 exact h3 j l hj
theorem RowAt.free {w:World} {B n:Nat} {ls:List Str} (h:RowAt w B n ls) (j:Nat):w.frozen? ⟨B,j,none⟩=false:=by
 obtain⟨cs,h1,_,_⟩:=h
 simp[World.frozen?,h1]
theorem RowAt.set {w:World} {B n:Nat} {ls:List Str} (h:RowAt w B n ls) {i:Nat} (hi:i=ls.length) (hn:i < n) (x:Str):RowAt (w.setCell ⟨B,i,none⟩ (.string (bs x))) B n (ls++[x]):=by
 obtain⟨cs,h1,h2,h3⟩:=h
 refine⟨cs.setIfInBounds i (.string (bs x)),?_,by simpa using h2,fun j l hj=>?_⟩
 ·simp[World.setCell,Array.getElem?_modify,h1]
 ·by_cases e:j=i
  ·subst e
   rw[hi,List.getElem?_append_right (Nat.le_refl _)] at hj
   simp at hj
   subst hj
   simp[h2,hn]
  ·have hjl:j < ls.length:=by
    have:=(List.getElem?_eq_some_iff.1 hj).1
    simp at this
    omega
   rw[List.getElem?_append_left hjl] at hj
   rw[Array.getElem?_setIfInBounds_ne (Ne.symm e)]
   exact h3 j l hj
structure Inner (w1:World) (Bk Bi Bc n i:Nat) (ls:List Str) (y:Nat) (w:World):Prop where
 calm:Calm w1 w
 row:RowAt w Bk n ls
 ci:w.heap[Bi]?=some (.cells #[.int .i64 i] 3 (0,0))
 cc:w.heap[Bc]?=some (.cells #[.int .u64 y] 28 (0,0))
 o1:w1.heap.size≤Bk
 o2:Bk < Bi
 o3:Bi < Bc
 o4:Bc < w.heap.size
section
variable {w1 w w':World} {Bk Bi Bc n i y:Nat} {ls:List Str}
theorem Inner.next (h:Inner w1 Bk Bi Bc n i ls y w) (hc:Calm w w'):Inner w1 Bk Bi Bc n i ls y w':=
 ⟨h.calm.trans hc,h.row.calm hc (by have:=h.o2;have:=h.o3;have:=h.o4;omega),(hc.block Bi (by have:=h.o3;have:=h.o4;omega)).trans h.ci,(hc.block Bc h.o4).trans h.cc,h.o1,h.o2,h.o3,Nat.lt_of_lt_of_le h.o4 hc.size⟩
theorem Inner.drewN (h:Inner w1 Bk Bi Bc n i ls y w) (m:Nat):Inner w1 Bk Bi Bc n i ls y (w.drewN m):=h.next ((Calm.refl w).drewN m)
end
theorem llen_v (b:Pat) (hs:List Pat) (n:Nat) (A:Option Addr) (c:Nat) (HA:Option Addr) (hc:Nat) (w:World) (hv:leastLen b hs=n) (hb:StrsR w A b.parts) (hh:PatsR w HA hs) :
  Calls Tryz.prog 214 #[.agg #[.slice A b.parts.length c,.bool b.rest],.slice HA hs.length hc] w fun e w'=>e=.returned (.int .i64 n)∧Calm w w':=hv ▸ llen_c b hs A c HA hc w hb hh
def void (b:Pat) (hs:List Pat):Bool:=leastLen b hs == 0
set_option maxHeartbeats 400000 in
theorem void_c (b:Pat) (hs:List Pat) (A:Option Addr) (c:Nat) (HA:Option Addr) (hc:Nat) (w:World) (hb:StrsR w A b.parts) (hh:PatsR w HA hs) :
  Calls Tryz.prog 176 #[.agg #[.slice A b.parts.length c,.bool b.rest],.slice HA hs.length hc] w fun e w'=>e=.returned (.bool (void b hs))∧Calm w w':=by
 obtain⟨n,hn⟩:∃n,leastLen b hs=n:=⟨_,rfl⟩
 obtain⟨w1,hw1⟩:∃w1,w1=w.alloc (.cells #[.slice A b.parts.length c,.bool b.rest] 65):=⟨_,rfl⟩
 have hc1:Calm w w1:=by rw[hw1];exact (Calm.refl w).alloc _
 have hcall:=llen_v b hs n A c HA hc w1 hn (hb.calm hc1) (hh.calm hc1)
 have hv:Hid (void b hs=((n:Int) == 0)):=by
  show void b hs=_
  rw[void,hn,Bool.eq_iff_iff]
  simp
 have HW:=Lib.hid hw1
 have HC:=Lib.hid hc1
 clear hn hw1 hc1 hb hh
 go_enter Tryz.func176,Tryz.ntmps176
 go_wp2_with (go_at_call 214;rw[←HW.out];refine hcall.mono ?_;rintro e w2 ⟨rfl,hc2⟩)
 go_ret
 exact⟨ret_bool (by rw[hv.out]),HC.out.trans hc2⟩
structure RegA (w:World) (A:Option Addr) (c:Nat) (HA:Option Addr) (b:Pat) (hs:List Pat):Prop where
 base:StrsR w A b.parts
 room:b.parts.length≤c
 cap:c≤9223372036854775807
 holes:PatsR w HA hs
theorem RegA.calm {w w':World} {A:Option Addr} {c:Nat} {HA:Option Addr} {b:Pat} {hs:List Pat} (h:RegA w A c HA b hs) (hc:Calm w w'):RegA w' A c HA b hs:=⟨h.base.calm hc,h.room,h.cap,h.holes.calm hc⟩
theorem results_cell_slot3 {fn:Func} {p q:Tmp} {ty:TypeId} (h:fn.results=#[.cell p ty,.tmp q]) (tmps:Array Value) (P:Program) (w:World) :
  (results fn tmps).run P w=((asAddr (tmps.getD p undef)).run P w).andThen fun a w₁=>((loadVar ty a).run P w₁).andThen fun v w₂=>.ok (.tuple #[v,tmps.getD q undef]) w₂:=results_cell_slot h tmps P w
theorem RegN.a {w:World} {B:Nat} {A:Option Addr} {c:Nat} {HA:Option Addr} {hc:Nat} {g:Reg} (h:RegN w B A c HA hc g) (hl:g.hs.length≤16384):RegA w A c HA g.b g.hs:=⟨h.base.a.r,h.base.a.room,h.base.a.cap,h.holes.reads hl⟩
theorem gcheck_a (g:Reg) (v:Int) (n m:Nat) (re:Bool) (A:Option Addr) (c:Nat) (HA:Option Addr) (hc:Nat) (w:World) (h:RegA w A c HA g.b g.hs) (hv:gErr g=v) (hn:g.b.parts.length=n) (hm:g.hs.length=m) (hre:g.b.rest=re) :
  Calls Tryz.prog 236 #[.agg #[.slice A n c,.bool re,.slice HA m hc]] w fun e w'=>e=.returned (.int .i64 v)∧Calm w w':=by
 have:=gcheck_c g.b g.hs A c HA hc w h.base h.room h.cap h.holes
 unfold gErr at hv
 rw[hv,hn,hm,hre] at this
 exact this
structure Box2 (w1:World) (B:Nat) (A:Option Addr) (n c:Nat) (re:Bool) (HA:Option Addr) (m hc:Nat) (A':Option Addr) (n' c':Nat) (re':Bool) (HA':Option Addr) (m' hc':Nat):Prop where
 size:B+2≤w1.heap.size
 x0:w1.cell? ⟨B,0,none⟩=some (.slice A n c)
 x1:w1.cell? ⟨B,1,none⟩=some (.bool re)
 x2:w1.cell? ⟨B,2,none⟩=some (.slice HA m hc)
 y0:w1.cell? ⟨B+1,0,none⟩=some (.slice A' n' c')
 y1:w1.cell? ⟨B+1,1,none⟩=some (.bool re')
 y2:w1.cell? ⟨B+1,2,none⟩=some (.slice HA' m' hc')
theorem Box2.calm {w1 w2:World} {B:Nat} {A:Option Addr} {n c:Nat} {re:Bool} {HA:Option Addr} {m hc:Nat} {A':Option Addr} {n' c':Nat} {re':Bool} {HA':Option Addr} {m' hc':Nat} (h:Box2 w1 B A n c re HA m hc A' n' c' re' HA' m' hc') (hcm:Calm w1 w2):Box2 w2 B A n c re HA m hc A' n' c' re' HA' m' hc':=by
 have h0:B < w1.heap.size:=by have:=h.size;omega
 have h1:B+1 < w1.heap.size:=by have:=h.size;omega
 exact⟨Nat.le_trans h.size hcm.size,hcm.at_ h.x0 h0,hcm.at_ h.x1 h0,hcm.at_ h.x2 h0,hcm.at_ h.y0 h1,hcm.at_ h.y1 h1,hcm.at_ h.y2 h1⟩
set_option maxHeartbeats 1000000 in
theorem both_c (x y:Reg) (v:Int) (n m n' m':Nat) (re re':Bool) (A:Option Addr) (c:Nat) (HA:Option Addr) (hc:Nat) (A':Option Addr) (c':Nat) (HA':Option Addr) (hc':Nat) (w:World) (h:RegA w A c HA x.b x.hs) (h':RegA w A' c' HA' y.b y.hs) (hv:bothErr x y=v)
  (hn:x.b.parts.length=n) (hm:x.hs.length=m) (hre:x.b.rest=re) (hn':y.b.parts.length=n') (hm':y.hs.length=m') (hre':y.b.rest=re') :
  Calls Tryz.prog 209 #[.agg #[.slice A n c,.bool re,.slice HA m hc],.agg #[.slice A' n' c',.bool re',.slice HA' m' hc']] w fun e w'=>e=.returned (.int .i64 v)∧Calm w w':=by
 obtain⟨w1,hw1⟩:∃w1,w1=(w.alloc (.cells #[.slice A n c,.bool re,.slice HA m hc] 214)).alloc (.cells #[.slice A' n' c',.bool re',.slice HA' m' hc'] 214):=⟨_,rfl⟩
 have hc1:Calm w w1:=by rw[hw1];exact ((Calm.refl w).alloc _).alloc _
 have hbox:Box2 w1 w.heap.size A n c re HA m hc A' n' c' re' HA' m' hc':=by
  rw[hw1]
  exact⟨by simp,by simp[go_sem],by simp[go_sem],by simp[go_sem],by simp[go_sem],by simp[go_sem],by simp[go_sem]⟩
 obtain⟨v1,hv1⟩:∃v1,gErr x=v1:=⟨_,rfl⟩
 have K1:=gcheck_a x v1 n m re A c HA hc w1 (h.calm hc1) hv1 hn hm hre
 have K2:=Lib.hid (fun (W:World) (hW:Calm w1 W)=>gcheck_a y (gErr y) n' m' re' A' c' HA' hc' W ((h'.calm hc1).calm hW) rfl hn' hm' hre')
 unfold bothErr at hv
 rw[hv1] at hv
 have HW:=Lib.hid hw1
 have HC:=Lib.hid hc1
 have HB:=Lib.hid hbox
 clear hw1 hc1 hbox h h' hn hm hre hn' hm' hre' hv1
 by_cases h0:v1=0
 ·subst h0
  rw[if_pos rfl] at hv
  rw[hv] at K2
  clear hv
  go_enter Tryz.func209,Tryz.ntmps209
  go_wp2_with fail
  rw[←HW.out]
  refine K1.mono ?_
  rintro e w2 ⟨rfl,hc2⟩
  have b2:=HB.out.calm hc2
  have y0:=b2.y0
  have y1:=b2.y1
  have y2:=b2.y2
  clear b2
  go_wp2_with fail
  refine (K2.out w2 hc2).mono ?_
  rintro e w3 ⟨rfl,hc3⟩
  go_wp2
  go_ret
  exact⟨rfl,HC.out.trans (hc2.trans hc3)⟩
 ·rw[if_neg h0] at hv
  subst hv
  have hb:(v1 == 0)=false:=by simpa using h0
  clear h0
  go_enter Tryz.func209,Tryz.ntmps209
  go_wp2_with fail
  rw[←HW.out]
  refine K1.mono ?_
  rintro e w2 ⟨rfl,hc2⟩
  go_wp2
  go_ret
  exact⟨rfl,HC.out.trans hc2⟩
def MeetREnd (x y:Reg) (B:Nat) (e:Ending) (w':World):Prop:=
 (∃g A3 c3 HA3 hc3,(meetR x y).1=some g∧(meetR x y).2=0∧e=.returned (.tuple #[.agg #[.slice A3 g.b.parts.length c3,.bool g.b.rest,.slice HA3 g.hs.length hc3],.bool true,.int .i64 0])∧RegN w' B A3 c3 HA3 hc3 g) ∨
 ((meetR x y).1=none∧e=.returned (.tuple #[.agg #[.slice none 0 0,.bool false,.slice none 0 0],.bool false,.int .i64 (meetR x y).2]))
theorem results_cell_tmps {fn:Func} {p q r:Tmp} {ty:TypeId} (h:fn.results=#[.cell p ty,.tmp q,.tmp r]) (tmps:Array Value) (P:Program) (w:World) :
  (results fn tmps).run P w=((asAddr (tmps.getD p undef)).run P w).andThen fun a w₁=>((loadVar ty a).run P w₁).andThen fun v w₂=>.ok (.tuple #[v,tmps.getD q undef,tmps.getD r undef]) w₂:=by
 simp only[results,h]
 simp[Sem.run_bind,Result.andThen]
structure Box2Z (w1:World) (B:Nat) (A:Option Addr) (n c:Nat) (re:Bool) (HA:Option Addr) (m hc:Nat) (A':Option Addr) (n' c':Nat) (re':Bool) (HA':Option Addr) (m' hc':Nat):Prop where
 two:Box2 w1 B A n c re HA m hc A' n' c' re' HA' m' hc'
 size:B+3≤w1.heap.size
 z0:w1.cell? ⟨B+2,0,none⟩=some (.slice none 0 0)
 z1:w1.cell? ⟨B+2,1,none⟩=some (.bool false)
 z2:w1.cell? ⟨B+2,2,none⟩=some (.slice none 0 0)
 fz:∀o,w1.frozen? ⟨B+2,o,none⟩=false
theorem Box2Z.calm {w1 w2:World} {B:Nat} {A:Option Addr} {n c:Nat} {re:Bool} {HA:Option Addr} {m hc:Nat} {A':Option Addr} {n' c':Nat} {re':Bool} {HA':Option Addr} {m' hc':Nat} (h:Box2Z w1 B A n c re HA m hc A' n' c' re' HA' m' hc') (hcm:Calm w1 w2):Box2Z w2 B A n c re HA m hc A' n' c' re' HA' m' hc':=by
 have h2:B+2 < w1.heap.size:=by have:=h.size;omega
 exact⟨h.two.calm hcm,Nat.le_trans h.size hcm.size,hcm.at_ h.z0 h2,hcm.at_ h.z1 h2,hcm.at_ h.z2 h2,fun o=>(hcm.frozen (p:=⟨B+2,o,none⟩) h2).trans (h.fz o)⟩
structure RedAt (w5 wx:World) (B10:Nat) (A3:Option Addr) (n3 c3:Nat) (re3:Bool) (HA3:Option Addr) (m3 hc3:Nat) (B:Nat) (g:Reg):Prop where
 calm:Calm w5 wx
 lt:B10 < wx.heap.size
 c0:wx.cell? ⟨B10,0,none⟩=some (.slice A3 n3 c3)
 c1:wx.cell? ⟨B10,1,none⟩=some (.bool re3)
 c2:wx.cell? ⟨B10,2,none⟩=some (.slice HA3 m3 hc3)
 reg:RegN wx B A3 c3 HA3 hc3 g
theorem RedAt.to {w5 wx wy:World} {B10:Nat} {A3:Option Addr} {n3 c3:Nat} {re3:Bool} {HA3:Option Addr} {m3 hc3 B:Nat} {g:Reg} (h:RedAt w5 wx B10 A3 n3 c3 re3 HA3 m3 hc3 B g) (hc:Calm wx wy):RedAt w5 wy B10 A3 n3 c3 re3 HA3 m3 hc3 B g:=
 ⟨h.calm.trans hc,Nat.lt_of_lt_of_le h.lt hc.size,hc.at_ h.c0 h.lt,hc.at_ h.c1 h.lt,hc.at_ h.c2 h.lt,h.reg.calm hc⟩
theorem void_v (g:Reg) (v:Bool) (n m:Nat) (re:Bool) (A:Option Addr) (c:Nat) (HA:Option Addr) (hc:Nat) (w:World) (h:RegA w A c HA g.b g.hs) (hv:(gLen g == 0)=v) (hn:g.b.parts.length=n) (hm:g.hs.length=m) (hre:g.b.rest=re) :
  Calls Tryz.prog 176 #[.agg #[.slice A n c,.bool re],.slice HA m hc] w fun e w'=>e=.returned (.bool v)∧Calm w w':=by
 have:=void_c g.b g.hs A c HA hc w h.base h.holes
 unfold gLen at hv
 subst hv hn hm hre
 exact this
theorem calm3 {w wr:World} {B o:Nat} (h:Calm w wr) (hB:w.heap.size≤B) (u0 u1 u2:Value):Calm w (((wr.setCell ⟨B,0,none⟩ u0).setCell ⟨B,1,none⟩ u1).setCell ⟨B,2,none⟩ u2):=
 Below.setCell (Below.setCell (Below.setCell h hB _) hB _) hB _
structure ZeroAt (W:World) (b:Nat):Prop where
 lt:b < W.heap.size
 z0:W.cell? ⟨b,0,none⟩=some (.slice none 0 0)
 z1:W.cell? ⟨b,1,none⟩=some (.bool false)
 z2:W.cell? ⟨b,2,none⟩=some (.slice none 0 0)
 f0:W.frozen? ⟨b,0,none⟩=false
 f1:W.frozen? ⟨b,1,none⟩=false
 f2:W.frozen? ⟨b,2,none⟩=false
theorem ZeroAt.calm {W W':World} {b:Nat} (h:ZeroAt W b) (hc:Calm W W'):ZeroAt W' b:=
 ⟨Nat.lt_of_lt_of_le h.lt hc.size,hc.at_ h.z0 h.lt,hc.at_ h.z1 h.lt,hc.at_ h.z2 h.lt,(hc.frozen (p:=⟨b,0,none⟩) h.lt).trans h.f0,(hc.frozen (p:=⟨b,1,none⟩) h.lt).trans h.f1,(hc.frozen (p:=⟨b,2,none⟩) h.lt).trans h.f2⟩
theorem zero_a (w:World) (X:Obj):ZeroAt ((w.alloc (.cells #[.slice none 0 0,.bool false,.slice none 0 0] 214)).alloc X).drew w.heap.size:=by
 constructor <;> simp[go_sem]
theorem zero_b (w:World) (X:Obj):ZeroAt ((w.alloc X).alloc (.cells #[.slice none 0 0,.bool false,.slice none 0 0] 214)).drew (w.heap.size+1):=by
 constructor <;> simp[go_sem]
theorem zero_c (w:World):ZeroAt (w.alloc (.cells #[.slice none 0 0,.bool false,.slice none 0 0] 214)) w.heap.size:=by
 constructor <;> simp[go_sem]
theorem redAt_set {w4 w7:World} {b B P:Nat} {A3:Option Addr} {n3 c3:Nat} {re3:Bool} {HA3:Option Addr} {m3 hc3:Nat} {g:Reg} (hz:ZeroAt w7 b) (hcy:Calm w4 w7) (h4:w4.heap.size≤b) (hb:b < P) (hP:B≤P) (hreg:RegN w7 P A3 c3 HA3 hc3 g) :
  RedAt w4 (((w7.setCell ⟨b,0,none⟩ (.slice A3 n3 c3)).setCell ⟨b,1,none⟩ (.bool re3)).setCell ⟨b,2,none⟩ (.slice HA3 m3 hc3)) b A3 n3 c3 re3 HA3 m3 hc3 B g:=by
 refine⟨calm3 (o:=0) hcy h4 _ _ _,by simpa using hz.lt,?_,?_,?_,(((hreg.set (p:=⟨b,0,none⟩) _ hb).set (p:=⟨b,1,none⟩) _ hb).set (p:=⟨b,2,none⟩) _ hb).mono hP⟩
 ·rw[World.cell?_setCell_other _ _ _ _ (by simp),World.cell?_setCell_other _ _ _ _ (by simp)]
  exact World.cell?_setCell_same' _ _ _ (by rw[hz.z0];rfl)
 ·rw[World.cell?_setCell_other _ _ _ _ (by simp)]
  exact World.cell?_setCell_same' _ _ _ (by rw[World.cell?_setCell_other _ _ _ _ (by simp),hz.z1];rfl)
 ·exact World.cell?_setCell_same' _ _ _ (by rw[World.cell?_setCell_other _ _ _ _ (by simp),World.cell?_setCell_other _ _ _ _ (by simp),hz.z2];rfl)
theorem redAt_new {w4 w7:World} {B P:Nat} {A3:Option Addr} {n3 c3:Nat} {re3:Bool} {HA3:Option Addr} {m3 hc3:Nat} {g:Reg} (hcy:Calm w4 w7) (hP:B≤P) (hreg:RegN w7 P A3 c3 HA3 hc3 g) :
  RedAt w4 (w7.alloc (.cells #[.slice A3 n3 c3,.bool re3,.slice HA3 m3 hc3] 214)) w7.heap.size A3 n3 c3 re3 HA3 m3 hc3 B g:=by
 have hcA:Calm w7 (w7.alloc (.cells #[.slice A3 n3 c3,.bool re3,.slice HA3 m3 hc3] 214)):=(Calm.refl w7).alloc _
 exact⟨hcy.trans hcA,by simp[go_sem],by simp[go_sem],by simp[go_sem],by simp[go_sem],(hreg.mono hP).calm hcA⟩
set_option maxRecDepth 100000 in
set_option maxHeartbeats 16000000 in
theorem gmeet_c (x y:Reg) (n m n' m':Nat) (re re':Bool) (A:Option Addr) (c:Nat) (HA:Option Addr) (hc:Nat) (A':Option Addr) (c':Nat) (HA':Option Addr) (hc':Nat) (w:World) (h:RegA w A c HA x.b x.hs) (h':RegA w A' c' HA' y.b y.hs)
  (hn:x.b.parts.length=n) (hm:x.hs.length=m) (hre:x.b.rest=re) (hn':y.b.parts.length=n') (hm':y.hs.length=m') (hre':y.b.rest=re') (hl:m+m'≤16384) :
  Calls Tryz.prog 170 #[.agg #[.slice A n c,.bool re,.slice HA m hc],.agg #[.slice A' n' c',.bool re',.slice HA' m' hc']] w fun e w'=>MeetREnd x y w.heap.size e w'∧Calm w w':=by
 obtain⟨w1,hw1⟩:∃w1,w1=((w.alloc (.cells #[.slice A n c,.bool re,.slice HA m hc] 214)).alloc (.cells #[.slice A' n' c',.bool re',.slice HA' m' hc'] 214)).alloc (.cells #[.slice none 0 0,.bool false,.slice none 0 0] 214):=⟨_,rfl⟩
 have hc1:Calm w w1:=by rw[hw1];exact (((Calm.refl w).alloc _).alloc _).alloc _
 have hbox:Box2Z w1 w.heap.size A n c re HA m hc A' n' c' re' HA' m' hc':=by
  rw[hw1]
  exact⟨⟨by simp,by simp[go_sem],by simp[go_sem],by simp[go_sem],by simp[go_sem],by simp[go_sem],by simp[go_sem]⟩,by simp,by simp[go_sem],by simp[go_sem],by simp[go_sem],fun o=>by simp[go_sem]⟩
 obtain⟨v,hv⟩:∃v,bothErr x y=v:=⟨_,rfl⟩
 have K0:=both_c x y v n m n' m' re re' A c HA hc A' c' HA' hc' w1 (h.calm hc1) (h'.calm hc1) hv hn hm hre hn' hm' hre'
 have HX:=Lib.hid (h.calm hc1)
 have HY:=Lib.hid (h'.calm hc1)
 have HN:=Lib.hid (And.intro hn (And.intro hm hre))
 have HN':=Lib.hid (And.intro hn' (And.intro hm' hre'))
 have HW:=Lib.hid hw1
 have HC:=Lib.hid hc1
 have HB:=Lib.hid hbox
 have HV:=Lib.hid hv
 clear hw1 hc1 hbox h h' hn hm hre hn' hm' hre' hv
 by_cases h0:v=0
 ·subst h0
  obtain⟨gx,gy⟩:=bothErr_zero HV.out
  obtain⟨gx1,gx2,_⟩:=gErr_zero gx
  obtain⟨gy1,gy2,_⟩:=gErr_zero gy
  rcases hmt:meetP x.b y.b with _ | mm
  ·have hE:Hid ((meetR x y).1=none∧(meetR x y).2=0):=by
    show (meetR x y).1=none∧(meetR x y).2=0
    unfold meetR
    rw[if_neg (by simpa using HV.out),hmt]
    exact⟨rfl,rfl⟩
   have KM:Hid (∀W,Calm w1 W→Calls Tryz.prog 168 #[.agg #[.slice A n c,.bool re],.agg #[.slice A' n' c',.bool re']] W fun e w'=>e=.returned (.tuple #[.agg #[.slice none 0 0,.bool false],.bool false])∧Calm W w'):=fun W hW=>by
    have hx:=HX.out.calm hW
    have hy:=HY.out.calm hW
    have:=meet_no x.b y.b A A' c c' W ⟨hx.base,hx.room,hx.cap⟩ ⟨hy.base,hy.room,hy.cap⟩ gx1 gy1 hmt
    rw[HN.out.1,HN.out.2.2,HN'.out.1,HN'.out.2.2] at this
    exact this
   clear gx gy gx1 gx2 gy1 gy2 hmt
   go_enter Tryz.func170,Tryz.ntmps170
   go_wp2_with fail
   rw[←HW.out]
   refine K0.mono ?_
   rintro e w2 ⟨rfl,hc2⟩
   have b2:=HB.out.calm hc2
   have x0:=b2.two.x0
   have x1:=b2.two.x1
   have y0:=b2.two.y0
   have y1:=b2.two.y1
   clear b2
   go_wp2_with fail
   refine (KM.out w2 hc2).mono ?_
   rintro e w3 ⟨rfl,hc3⟩
   have HC4:=Lib.hid (HC.out.trans (hc2.trans (hc3.trans ((Calm.refl w3).alloc (.cells #[.slice none 0 0,.bool false] 65)))))
   have b4:=HB.out.calm (hc2.trans (hc3.trans ((Calm.refl w3).alloc (.cells #[.slice none 0 0,.bool false] 65))))
   have z0:=b4.z0
   have z1:=b4.z1
   have z2:=b4.z2
   have f0:=b4.fz 0
   have f1:=b4.fz 1
   have f2:=b4.fz 2
   clear hc2 hc3 b4 KM K0 x0 x1 y0 y1
   go_wp2
   refine bodyPost_ret (v:=.tuple #[.agg #[.slice none 0 0,.bool false,.slice none 0 0],.bool false,.int .i64 0]) ?_ rfl ⟨.inr ⟨hE.out.1,by rw[hE.out.2]⟩,calm3 (o:=0) HC4.out (by omega) _ _ _⟩
   rw[results_cell_tmps rfl]
   go_simp
  ·obtain⟨N,hN⟩:∃N,(x.hs++y.hs).length=N:=⟨_,rfl⟩
   have hN2:N≤16384:=by rw[←hN,List.length_append,HN.out.2.1,HN'.out.2.1];exact hl
   obtain⟨g,hg⟩:∃g,meetG mm x y=g:=⟨_,rfl⟩
   obtain⟨gn,hgn⟩:∃gn,mm.parts.length=gn:=⟨_,rfl⟩
   obtain⟨gr,hgr⟩:∃gr,mm.rest=gr:=⟨_,rfl⟩
   obtain⟨gm,hgm⟩:∃gm,(redL mm (x.hs++y.hs)).length=gm:=⟨_,rfl⟩
   have hgmN:gm≤N:=by rw[←hgm,←hN];exact redL_len _ _
   have KM:Hid (∀W,Calm w1 W→Calls Tryz.prog 168 #[.agg #[.slice A n c,.bool re],.agg #[.slice A' n' c',.bool re']] W fun e w'=>(∃A2 c2,e=.returned (.tuple #[.agg #[.slice A2 gn c2,.bool gr],.bool true])∧SmallN w' W.heap.size ⟨A2,c2,mm⟩)∧Calm W w'):=fun W hW=>by
    have hx:=HX.out.calm hW
    have hy:=HY.out.calm hW
    have:=meet_yes x.b y.b mm A A' c c' W ⟨hx.base,hx.room,hx.cap⟩ ⟨hy.base,hy.room,hy.cap⟩ gx1 gy1 hmt
    rw[HN.out.1,HN.out.2.2,HN'.out.1,HN'.out.2.2,hgn,hgr] at this
    exact this
   have HGo:Hid (∀A2 c2 AC cC W,PatA W A2 c2 mm→PatsR W AC (x.hs++y.hs)→Calls Tryz.prog 169 #[.agg #[.slice A2 gn c2,.bool gr],.slice AC N cC] W fun e w'=>(∃A3 c3 HA3 hc3,e=.returned (.agg #[.slice A3 gn c3,.bool gr,.slice HA3 gm hc3])∧NewS w' W.heap.size A3 c3 mm.parts∧PatsN w' W.heap.size HA3 hc3 (redL mm (x.hs++y.hs)))∧Calm W w'):=fun A2 c2 AC cC W h1 h2=>by
    have:=reduce_c mm (x.hs++y.hs) A2 c2 AC N cC W h1 h2 hN (meetP_some hmt).2.2.2 (fun p hp=>(List.mem_append.1 hp).elim (gx2 p) (gy2 p))
    unfold RedEnd at this
    rw[hgn,hgr,hgm] at this
    exact this
   have HMt:=Lib.hid (And.intro hmt (And.intro hg (And.intro hgn (And.intro hgr (And.intro hgm hN)))))
   have hE1:Hid (64 < gm→(meetR x y).1=none∧(meetR x y).2=52):=fun hlt=>by
    have h2:64 < (meetG mm x y).hs.length:=by show 64 < (redL mm (x.hs++y.hs)).length;rw[hgm];exact hlt
    unfold meetR
    rw[if_neg (by simpa using HV.out),hmt]
    simp only
    rw[if_pos h2]
    exact⟨rfl,rfl⟩
   have hE2:Hid (¬64 < gm→gLen g=0→(meetR x y).1=none∧(meetR x y).2=0):=fun hlt hz=>by
    have h2:¬64 < (meetG mm x y).hs.length:=by show ¬64 < (redL mm (x.hs++y.hs)).length;rw[hgm];exact hlt
    unfold meetR
    rw[if_neg (by simpa using HV.out),hmt]
    simp only
    rw[if_neg h2,hg,if_pos hz]
    exact⟨rfl,rfl⟩
   have hE3:Hid (¬64 < gm→gLen g≠0→(meetR x y).1=some g∧(meetR x y).2=0):=fun hlt hz=>by
    have h2:¬64 < (meetG mm x y).hs.length:=by show ¬64 < (redL mm (x.hs++y.hs)).length;rw[hgm];exact hlt
    unfold meetR
    rw[if_neg (by simpa using HV.out),hmt]
    simp only
    rw[if_neg h2,hg,if_neg hz]
    exact⟨rfl,rfl⟩
   clear gx gy gx1 gx2 gy1 gy2 hmt hg hgn hgr hgm hN
   go_enter Tryz.func170,Tryz.ntmps170
   go_wp2_with fail
   rw[←HW.out]
   refine K0.mono ?_
   rintro e w2 ⟨rfl,hc2⟩
   have b2:=HB.out.calm hc2
   have x0:=b2.two.x0
   have x1:=b2.two.x1
   have y0:=b2.two.y0
   have y1:=b2.two.y1
   clear b2
   go_wp2_with fail
   refine (KM.out w2 hc2).mono ?_
   rintro e w3 ⟨⟨A2,c2,rfl,hs3⟩,hc3⟩
   clear x0 x1 y0 y1
   go_upto_region 7 with (fail)
   obtain⟨w4,hw4⟩:∃w4,w4=w3.alloc (.cells #[.slice A2 gn c2,.bool gr] 65):=⟨_,rfl⟩
   rw[←hw4]
   have hc4:Calm w3 w4:=by rw[hw4];exact (Calm.refl w3).alloc _
   have t0:w4.cell? ⟨w3.heap.size,0,none⟩=some (.slice A2 gn c2):=by rw[hw4];simp[go_sem]
   have t1:w4.cell? ⟨w3.heap.size,1,none⟩=some (.bool gr):=by rw[hw4];simp[go_sem]
   have tlt:w3.heap.size < w4.heap.size:=by rw[hw4];simp[go_sem]
   have HC4:=Lib.hid (hc2.trans (hc3.trans hc4))
   have HS4:=Lib.hid (hs3.calm hc4)
   have hBx:=HB.out.calm HC4.out
   have hw2s:w.heap.size≤w2.heap.size:=(HC.out.trans hc2).size
   have HSX:Hid (∀W,Calm w4 W→W.cell? ⟨w3.heap.size,0,none⟩=some (.slice A2 gn c2)∧W.cell? ⟨w3.heap.size,1,none⟩=some (.bool gr)∧W.cell? ⟨w.heap.size,2,none⟩=some (.slice HA m hc)∧W.cell? ⟨w.heap.size+1,2,none⟩=some (.slice HA' m' hc')):=fun W hW=>
    ⟨Calm.at_ hW t0 tlt,Calm.at_ hW t1 tlt,Calm.at_ hW hBx.two.x2 (by have:=hBx.size;omega),Calm.at_ hW hBx.two.y2 (by have:=hBx.size;omega)⟩
   have HW2s:=Lib.hid hw2s
   clear hw4 hc2 hc3 hc4 hs3 t0 t1 tlt hBx hw2s KM K0
   have KCat:Hid (∀W gg,Calm w4 W→W.cell? ⟨gg,0,none⟩=some (.slice HA m hc)→W.cell? ⟨gg,1,none⟩=some (.slice HA' m' hc')→gg < W.heap.size→Calls Tryz.prog 210 #[.slice (some ⟨gg,0,none⟩) 2 2] W fun e w'=>(∃AC cC,e=.returned (.slice AC N cC)∧PatsR w' AC (x.hs++y.hs))∧Calm W w'):=fun W gg hW k0 k1 hgg=>by
    have:=concat_c x.hs y.hs HA HA' m m' hc hc' gg 2 W (HX.out.calm (HC4.out.trans hW)).holes (HY.out.calm (HC4.out.trans hW)).holes HN.out.2.1 HN'.out.2.1 hl k0 k1 hgg
    unfold CatEnd at this
    rw[HMt.out.2.2.2.2.2] at this
    exact this
   go_cut [10] (fun s wx=>∃B10 A3 c3 HA3 hc3,s=.pointer (some ⟨B10,0,none⟩)∧Hid (RedAt w4 wx B10 A3 gn c3 gr HA3 gm hc3 (w.heap.size+3) g))
   case first=>
    go_region_held3 (fun W=>W.cell? ⟨w3.heap.size,0,none⟩=some (.slice A2 gn c2)∧W.cell? ⟨w3.heap.size,1,none⟩=some (.bool gr)∧W.cell? ⟨w.heap.size,2,none⟩=some (.slice HA m hc)∧W.cell? ⟨w.heap.size+1,2,none⟩=some (.slice HA' m' hc'))
     (first
      |exact HSX.out _ (Below.drew (Calm.refl _))
      |exact HSX.out _ (Below.drew ((Calm.refl _).alloc _))
      |exact HSX.out _ (Below.drew (((Calm.refl _).alloc _).alloc _))
      |exact HSX.out _ hcy
      |exact HSX.out _ (hcy.alloc _)
      |exact HSX.out _ (calm3 (o:=0) hcy hcx.size _ _ _)
      |exact HSX.out _ (calm3 (o:=0) hcy (Nat.le_refl _) _ _ _)
      |exact HSX.out _ (calm3 (o:=0) hcy (Nat.le_succ _) _ _ _)
      |exact HSX.out _ hcx
      |exact HSX.out _ (hcx.alloc _)
      |go_keep)
     (first
      |(go_at_call 210;refine (KCat.out _ _ (by first | exact Below.drew ((Calm.refl _).alloc _) | exact Below.drew (((Calm.refl _).alloc _).alloc _) | exact Below.drew (Calm.refl _)) (by simp[go_sem]) (by simp[go_sem]) (by simp[go_sem])).mono ?_;rintro e w6 ⟨⟨AC,cC,rfl,hP6⟩,hcC⟩;have hcx:Calm w4 w6:=Calm.trans (by first | exact Below.drew ((Calm.refl _).alloc _) | exact Below.drew (((Calm.refl _).alloc _).alloc _) | exact Below.drew (Calm.refl _)) hcC)
      |(go_at_call 169;refine (HGo.out A2 c2 AC cC _ (HS4.out.calm (hcx.trans (by first | exact Calm.refl _ | exact (Calm.refl _).alloc _))).a (hP6.calm (by first | exact Calm.refl _ | exact (Calm.refl _).alloc _))).mono ?_;rintro e w7 ⟨⟨A3,c3,HA3,hc3,rfl,hn7,hp7⟩,hc7⟩;(first | have hZ7:ZeroAt w7 w6.heap.size:=ZeroAt.calm (zero_c _) hc7 | have hZ7:ZeroAt w7 w4.heap.size:=ZeroAt.calm (ZeroAt.calm (zero_a _ _) hcC) hc7 | have hZ7:ZeroAt w7 (w4.heap.size+1):=ZeroAt.calm (ZeroAt.calm (zero_b _ _) hcC) hc7 | skip);have hcy:Calm w4 w7:=Calm.trans (hcx.trans (by first | exact Calm.refl _ | exact (Calm.refl _).alloc _)) hc7;try (have z0:=hZ7.z0;have z1:=hZ7.z1;have z2:=hZ7.z2;have f0:=hZ7.f0;have f1:=hZ7.f1;have f2:=hZ7.f2)))
    all_goals
     have hreg7:=regN_of hn7 hp7 HS4.out.few HS4.out.each
     have hsz6:w.heap.size+3≤w4.heap.size:=(HB.out.calm HC4.out).size
     have hsz7:=hcC.size
     have hsz8:=hcx.size
     simp[go_sem] at hsz7
     have hR:=HMt.out.2.1
     unfold meetG at hR
     go_wp2_with fail
     go_meet
     case rel=>
      first
       |exact⟨_,_,_,_,_,rfl,hR ▸ redAt_new hcy (by omega) hreg7⟩
       |exact⟨_,_,_,_,_,rfl,hR ▸ redAt_set hZ7 hcy (by omega) (by simp[go_sem]) (by simp[go_sem];omega) hreg7⟩
       |exact⟨_,_,_,_,_,rfl,hR ▸ redAt_set hZ7 hcy (by omega) (by omega) (by omega) hreg7⟩
   case rest=>
    obtain⟨B10,A3,c3,HA3,hc3,rfl,HR⟩:=hcut
    have c0:=HR.out.c0
    have c1:=HR.out.c1
    have c2:=HR.out.c2
    have hlt:=HR.out.lt
    have hbz:=HB.out.calm (HC4.out.trans HR.out.calm)
    have z0:=hbz.z0
    have z1:=hbz.z1
    have z2:=hbz.z2
    have f0:=hbz.fz 0
    have f1:=hbz.fz 1
    have f2:=hbz.fz 2
    have HCr:=Lib.hid (HC.out.trans (HC4.out.trans HR.out.calm))
    have HBz:=Lib.hid hbz
    clear hbz
    by_cases h64:64 < gm
    ·have hE:=Lib.hid (hE1.out h64)
     go_wp2
     refine bodyPost_ret (v:=.tuple #[.agg #[.slice none 0 0,.bool false,.slice none 0 0],.bool false,.int .i64 52]) ?_ rfl ⟨.inr ⟨hE.out.1,by rw[hE.out.2]⟩,calm3 (o:=0) HCr.out (by omega) _ _ _⟩
     rw[results_cell_tmps rfl]
     go_simp
    ·obtain⟨vz,hvz⟩:∃vz,(gLen g == 0)=vz:=⟨_,rfl⟩
     have KV:Hid (∀W,Calm wc W→Calls Tryz.prog 176 #[.agg #[.slice A3 gn c3,.bool gr],.slice HA3 gm hc3] W fun e w'=>e=.returned (.bool vz)∧Calm W w'):=fun W hW=>
      void_v g vz gn gm gr A3 c3 HA3 hc3 W ((HR.out.reg.calm hW).a (by rw[←HMt.out.2.1];show (redL mm (x.hs++y.hs)).length≤16384;rw[HMt.out.2.2.2.2.1];omega)) hvz (by rw[←HMt.out.2.1];exact HMt.out.2.2.1) (by rw[←HMt.out.2.1];exact HMt.out.2.2.2.2.1) (by rw[←HMt.out.2.1];exact HMt.out.2.2.2.1)
     have h64':Hid (¬64 < gm):=h64
     cases vz with
     |true=>
      have hE:=Lib.hid (hE2.out h64 (by simpa using hvz))
      clear hvz z0 z1 z2 f0 f1 f2
      go_wp2_with fail
      refine (KV.out wc (Calm.refl _)).mono ?_
      rintro e w9 ⟨rfl,hc9⟩
      have hb9:=HBz.out.calm hc9
      have z0:=hb9.z0
      have z1:=hb9.z1
      have z2:=hb9.z2
      have f0:=hb9.fz 0
      have f1:=hb9.fz 1
      have f2:=hb9.fz 2
      clear hb9
      go_wp2
      refine bodyPost_ret (v:=.tuple #[.agg #[.slice none 0 0,.bool false,.slice none 0 0],.bool false,.int .i64 0]) ?_ rfl ⟨.inr ⟨hE.out.1,by rw[hE.out.2]⟩,calm3 (o:=0) (HCr.out.trans hc9) (by omega) _ _ _⟩
      rw[results_cell_tmps rfl]
      go_simp
     |false=>
      have hE:=Lib.hid (hE3.out h64 (by simpa using hvz))
      clear hvz z0 z1 z2 f0 f1 f2 c0 c1 c2
      have c0:=HR.out.c0
      have c1:=HR.out.c1
      have c2:=HR.out.c2
      go_wp2_with fail
      refine (KV.out wc (Calm.refl _)).mono ?_
      rintro e w9 ⟨rfl,hc9⟩
      have hb9:=HBz.out.calm hc9
      have z0:=hb9.z0
      have z1:=hb9.z1
      have z2:=hb9.z2
      have f0:=hb9.fz 0
      have f1:=hb9.fz 1
      have f2:=hb9.fz 2
      have hr9:=HR.out.to hc9
      clear c0 c1 c2
      have c0:=hr9.c0
      have c1:=hr9.c1
      have c2:=hr9.c2
      have hr3:=hr9.reg
      have HCz:=Lib.hid (HCr.out.trans hc9)
      have hlen:g.b.parts.length=gn∧g.b.rest=gr∧g.hs.length=gm:=by
       rw[←HMt.out.2.1]
       exact⟨HMt.out.2.2.1,HMt.out.2.2.2.1,HMt.out.2.2.2.2.1⟩
      have hD:=fun (u0 u1 u2:Value)=>Lib.hid (show MeetREnd x y w.heap.size (.returned (.tuple #[.agg #[.slice A3 gn c3,.bool gr,.slice HA3 gm hc3],.bool true,.int .i64 0])) (((w9.setCell ⟨w.heap.size+2,0,none⟩ u0).setCell ⟨w.heap.size+2,1,none⟩ u1).setCell ⟨w.heap.size+2,2,none⟩ u2) from
       .inl ⟨g,A3,c3,HA3,hc3,hE.out.1,hE.out.2,by rw[hlen.1,hlen.2.1,hlen.2.2],(((hr3.set (p:=⟨w.heap.size+2,0,none⟩) u0 (Nat.lt_succ_self _)).set (p:=⟨w.heap.size+2,1,none⟩) u1 (Nat.lt_succ_self _)).set (p:=⟨w.heap.size+2,2,none⟩) u2 (Nat.lt_succ_self _)).mono (by omega)⟩)
      clear hr9 hr3 hc9 hlen
      go_wp2
      refine bodyPost_ret (v:=.tuple #[.agg #[.slice A3 gn c3,.bool gr,.slice HA3 gm hc3],.bool true,.int .i64 0]) ?_ rfl ⟨(hD _ _ _).out,calm3 (o:=0) HCz.out (by omega) _ _ _⟩
      rw[results_cell_tmps rfl]
      go_simp
 ·have hE:Hid ((meetR x y).1=none∧(meetR x y).2=v):=by
   show (meetR x y).1=none∧(meetR x y).2=v
   unfold meetR
   rw[HV.out,if_pos h0]
   exact⟨rfl,rfl⟩
  have hb:(v == 0)=false:=by simpa using h0
  clear h0
  go_enter Tryz.func170,Tryz.ntmps170
  go_wp2_with fail
  rw[←HW.out]
  refine K0.mono ?_
  rintro e w2 ⟨rfl,hc2⟩
  have b2:=HB.out.calm hc2
  have z0:=b2.z0
  have z1:=b2.z1
  have z2:=b2.z2
  have f0:=b2.fz 0
  have f1:=b2.fz 1
  have f2:=b2.fz 2
  have HC4:=Lib.hid (HC.out.trans hc2)
  clear b2 hc2 K0
  go_wp2
  refine bodyPost_ret (v:=.tuple #[.agg #[.slice none 0 0,.bool false,.slice none 0 0],.bool false,.int .i64 v]) ?_ rfl ⟨.inr ⟨hE.out.1,by rw[hE.out.2]⟩,calm3 (o:=0) HC4.out (by omega) _ _ _⟩
  rw[results_cell_tmps rfl]
  go_simp
end Go.Proofs.YtcofdlipapnohaaGreatDoor
