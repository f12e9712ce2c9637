/- Walks: the components of a path, the program's way. -/
import Derived.Test.YtcofdlipapnohaaGreatDoorZCheckG
import Derived.Test.YtcofdlipapnohaaGreatDoorZNewS
set_option linter.unusedVariables false
set_option linter.unusedSimpArgs false
namespace Go.Proofs.YtcofdlipapnohaaGreatDoor
open Go Go.RowKit Sy
theorem prefix47 (p:Str):Lib.hasPrefix p [47,47]=decide (p.take 2=[47,47]):=by
 match p with
 |[]=>rfl
 |[a]=>simp[Lib.hasPrefix,List.isPrefixOf]
 |a :: b :: t=>
  rw[Bool.eq_iff_iff]
  simp[Lib.hasPrefix]
  exact⟨fun⟨h1,h2⟩=>⟨h1.symm,h2.symm⟩,fun⟨h1,h2⟩=>⟨h1.symm,h2.symm⟩⟩
theorem cut47_c (p:Str) (w:World):Calls Tryz.prog 247 #[.string (bs p),.string ⟨#[47,47]⟩] w fun e w'=>e=.returned (.tuple #[.string (bs (if p.take 2=[47,47] then p.drop 2 else p)),.bool (decide (p.take 2=[47,47]))])∧w=w':=
 (Tryz.strings_CutPrefix (bs p) ⟨#[47,47]⟩ w).mono fun _ _ ⟨he,hw⟩=>⟨by
  rw[he,bs_toList,←prefix47]
  have:Lib.trimPrefix p [47,47]=if p.take 2=[47,47] then p.drop 2 else p:=by
   unfold Lib.trimPrefix
   rw[prefix47]
   simp
  rw[←this]
  rfl,hw.symm⟩
theorem allc_step {ls:List Str} {k:Nat} {l:Str} (hk:ls[k]?=some l) (h:(ls.take k).all comp=true) (hc:comp l=true):(ls.take (k+1)).all comp=true:=by
 obtain⟨hlt,he⟩:=List.getElem?_eq_some_iff.1 hk
 rw[List.take_succ_eq_append_getElem hlt,List.all_append,h,he]
 simp[hc]
theorem allc_stop {ls:List Str} {k:Nat} {l:Str} (hk:ls[k]?=some l) (hc:comp l=false):ls.all comp=false:=by
 rw[List.all_eq_false]
 exact⟨l,List.mem_of_getElem? hk,by simp[hc]⟩
theorem pathOf_pre {p:Str} (h:p.take 2≠[47,47]):pathOf p=none:=by
 rw[pathOf,pathParts,if_neg (fun hh=>h hh.1)]
theorem pathOf_few {p:Str} (h:(slash (p.drop 2)).length < 2):pathOf p=none:=by
 unfold pathOf pathParts
 split
 ·rename_i l hl
  split at hl
  ·simp only[Option.some.injEq] at hl
   subst hl
   rw[if_neg (by omega)]
  ·cases hl
 ·rfl
theorem pathOf_bad {p:Str} (h:(slash (p.drop 2)).all comp=false):pathOf p=none:=by
 rw[pathOf,pathParts,if_neg (fun hh=>by rw[h] at hh;exact absurd hh.2 (by simp))]
theorem pathOf_good {p:Str} (h1:p.take 2=[47,47]) (h2:2≤(slash (p.drop 2)).length) (h3:(slash (p.drop 2)).all comp=true):pathOf p=some (slash (p.drop 2)):=by
 rw[pathOf,pathParts,if_pos ⟨h1,h3⟩]
 simp[h2]
def CompsEnd (p:Str) (w:World) (e:Ending) (w':World):Prop:=
 (∃l,pathOf p=some l∧l=slash (p.drop 2)∧e=.returned (.tuple #[.slice (some ⟨w.heap.size,0,none⟩) l.length l.length,.bool true])∧StrsG w' (some ⟨w.heap.size,0,none⟩) l) ∨
  (pathOf p=none∧∃A n c,e=.returned (.tuple #[.slice A n c,.bool false]))
set_option maxHeartbeats 1000000 in
theorem pcomps_c (p:Str) (w:World) (hp:p.length≤3000000) (hM:MaxL w) :
  Calls Tryz.prog 222 #[.string (bs p),.int .i64 2] w fun e w'=>CompsEnd p w e w'∧Calm w w':=by
 have hcut:=cut47_c p w
 by_cases h2:p.take 2=[47,47]
 ·rw[if_pos h2,decide_eq_true h2] at hcut
  have hsp:=split_c (p.drop 2) w (by rw[List.length_drop];omega) hM
  have hsl:=slash_len (p.drop 2)
  rw[List.length_drop] at hsl
  obtain⟨ls,hls⟩:∃ls,slash (p.drop 2)=ls:=⟨_,rfl⟩
  obtain⟨n,hn⟩:∃n,ls.length=n:=⟨_,rfl⟩
  rw[hls,hn] at hsp hsl
  have Hls:=Lib.hid hls
  have Hn:=Lib.hid hn
  have H2:=Lib.hid h2
  have hn3:n≤3000000:=by omega
  clear hls hn h2 hM
  go_enter Tryz.func222,Tryz.ntmps222
  by_cases hn2:n < 2
  ·have Hv:Hid (pathOf p=none):=pathOf_few (by rw[Hls.out,Hn.out];exact hn2)
   go_wp2_with (first | (go_at_call 247;refine hcut.mono ?_;rintro e w' ⟨rfl,rfl⟩) | (go_at_call 242;refine hsp.mono ?_;rintro e w2 ⟨rfl,hc2,hst2⟩))
   go_ret2
   exact⟨.inr ⟨Hv.out,_,_,_,rfl⟩,hc2⟩
  ·go_wp2_with (first | (go_at_call 247;refine hcut.mono ?_;rintro e w' ⟨rfl,rfl⟩) | (go_at_call 242;refine hsp.mono ?_;rintro e w2 ⟨rfl,hc2,hst2⟩))
   have HS:=Lib.hid hst2
   have HC:=Lib.hid hc2
   clear hst2 hc2 hsp hcut
   go_loop [26] (fun q=>∃k:Nat,k≤n∧q=.int .i64 k∧Hid ((ls.take k).all comp=true)) (fun q=>n - (intOf q).toNat)
   case atStart=>exact⟨0,Nat.zero_le _,rfl,rfl⟩
   case round=>
    obtain⟨k,hk,rfl,HA⟩:=hrel
    by_cases hlt:k < n
    ·obtain⟨b,o,l,hA,hb,hl,hll,hcell⟩:=HS.out.get (k:=k) (by rw[Hn.out];exact hlt)
     obtain⟨rfl,rfl⟩:w.heap.size=b∧0=o:=by simpa using hA
     have HL:=Lib.hid hl
     clear hl hA
     rw[Nat.zero_add] at hcell
     rcases hco:comp l with _ | _
     ·go_wp2_with (go_at_call 132;refine (comp_v _ _ _ hll hco).mono ?_;rintro e w' ⟨rfl,rfl⟩)
      go_ret2
      exact⟨.inr ⟨pathOf_bad (by rw[Hls.out];exact allc_stop HL.out hco),_,_,_,rfl⟩,HC.out⟩
     ·go_wp2_with (go_at_call 132;refine (comp_v _ _ _ hll hco).mono ?_;rintro e w' ⟨rfl,rfl⟩)
      go_round
      case rel=>exact⟨k+1,by omega,by go_num,allc_step HL.out HA.out hco⟩
      case measure=>simp[intOf];omega
    ·go_wp2
     go_ret2
     have hall:ls.all comp=true:=by
      have:=HA.out
      rw[List.take_of_length_le (by rw[Hn.out];omega)] at this
      exact this
     exact⟨.inl ⟨ls,by rw[pathOf_good H2.out (by rw[Hls.out,Hn.out];omega) (by rw[Hls.out];exact hall),Hls.out],Hls.out.symm,(by rw[Hn.out];rfl),HS.out⟩,HC.out⟩
 ·rw[if_neg h2,decide_eq_false h2] at hcut
  have Hv:Hid (pathOf p=none):=pathOf_pre h2
  clear h2
  go_enter Tryz.func222,Tryz.ntmps222
  go_wp2_with (go_at_call 247;refine hcut.mono ?_;rintro e w' ⟨rfl,rfl⟩)
  go_ret2
  exact⟨.inr ⟨Hv.out,_,_,_,rfl⟩,Calm.refl w⟩
theorem pcomps_yes (p:Str) (l:List Str) (w:World) (hp:p.length≤3000000) (hM:MaxL w) (h:pathOf p=some l) :
  Calls Tryz.prog 222 #[.string (bs p),.int .i64 2] w fun e w'=>e=.returned (.tuple #[.slice (some ⟨w.heap.size,0,none⟩) l.length l.length,.bool true])∧Calm w w'∧StrsG w' (some ⟨w.heap.size,0,none⟩) l:=
 (pcomps_c p w hp hM).mono fun e w' ⟨h1,h2⟩=>by
  rcases h1 with⟨m,h3,_,h4,h5⟩ | ⟨h3,_⟩
  ·rw[h] at h3
   cases h3
   exact⟨h4,h2,h5⟩
  ·rw[h] at h3
   cases h3
theorem pcomps_no (p:Str) (w:World) (hp:p.length≤3000000) (hM:MaxL w) (h:pathOf p=none) :
  Calls Tryz.prog 222 #[.string (bs p),.int .i64 2] w fun e w'=>∃A n c,e=.returned (.tuple #[.slice A n c,.bool false])∧Calm w w':=
 (pcomps_c p w hp hM).mono fun e w' ⟨h1,h2⟩=>by
  rcases h1 with⟨m,h3,_⟩ | ⟨_,A,n,c,h4⟩
  ·rw[h] at h3
   cases h3
  ·exact⟨A,n,c,h4,h2⟩
theorem psplit_yes (p:Str) (l:List Str) (w:World) (hp:p.length≤3000000) (hM:MaxL w) (h:pathOf p=some l) :
  Calls Tryz.prog 223 #[.string (bs p)] w fun e w'=>e=.returned (.tuple #[.slice (some ⟨w.heap.size,0,none⟩) l.length l.length,.int .i64 0])∧Calm w w'∧StrsG w' (some ⟨w.heap.size,0,none⟩) l:=by
 have hc:=pcomps_yes p l w hp hM h
 clear h hM
 go_enter Tryz.func223,Tryz.ntmps223
 go_wp2_with (go_at_call 222;refine hc.mono ?_;rintro e w2 ⟨rfl,hc2,hst2⟩)
 go_ret2
 exact⟨rfl,hc2,hst2⟩
theorem psplit_no (p:Str) (w:World) (hp:p.length≤3000000) (hM:MaxL w) (h:pathOf p=none) :
  Calls Tryz.prog 223 #[.string (bs p)] w fun e w'=>e=.returned (.tuple #[.slice none 0 0,.int .i64 20])∧Calm w w':=by
 have hc:=pcomps_no p w hp hM h
 clear h hM
 go_enter Tryz.func223,Tryz.ntmps223
 go_wp2_with (go_at_call 222;refine hc.mono ?_;rintro e w2 ⟨A2,n2,c2,rfl,hc2⟩)
 go_ret2
 exact⟨rfl,hc2⟩
theorem qsplit_yes (p:Str) (l:List Str) (w:World) (hp:p.length≤3000000) (hM:MaxL w) (h:pathOf p=some l) :
  Calls Tryz.prog 218 #[.string (bs p)] w fun e w'=>e=.returned (.tuple #[.slice (some ⟨w.heap.size,0,none⟩) l.length l.length,.bool true])∧Calm w w'∧StrsG w' (some ⟨w.heap.size,0,none⟩) l:=by
 have hc:=psplit_yes p l w hp hM h
 clear h hM
 go_enter Tryz.func218,Tryz.ntmps218
 go_wp2_with (go_at_call 223;refine hc.mono ?_;rintro e w2 ⟨rfl,hc2,hst2⟩)
 go_ret2
 exact⟨rfl,hc2,hst2⟩
theorem qsplit_no (p:Str) (w:World) (hp:p.length≤3000000) (hM:MaxL w) (h:pathOf p=none) :
  Calls Tryz.prog 218 #[.string (bs p)] w fun e w'=>e=.returned (.tuple #[.slice none 0 0,.bool false])∧Calm w w':=by
 have hc:=psplit_no p w hp hM h
 clear h hM
 go_enter Tryz.func218,Tryz.ntmps218
 go_wp2_with (go_at_call 223;refine hc.mono ?_;rintro e w2 ⟨rfl,hc2⟩)
 go_ret2
 exact⟨rfl,hc2⟩
end Go.Proofs.YtcofdlipapnohaaGreatDoor
