/- Walks: the program's Match. -/
import Derived.Test.YthopphabeddnfaaGreatDoorZWalkG
import Derived.Test.YthopphabeddnfaaGreatDoorZStr
import Derived.Test.YthopphabeddnfaaGreatDoorZCheckG
set_option linter.unusedVariables false
set_option linter.unusedSimpArgs false
namespace Go.Proofs.YthopphabeddnfaaGreatDoor
open Go Go.RowKit Sy

theorem prefix47 (p : Str) : Lib.hasPrefix p [47,47] = decide (p.take 2 = [47,47]):=by
 match p with
 |[]=>rfl
 |[a]=>simp [Lib.hasPrefix,List.isPrefixOf]
 |a :: b :: t=>
  rw [Bool.eq_iff_iff]
  simp [Lib.hasPrefix]
  exact ⟨fun ⟨h1,h2⟩=>⟨h1.symm,h2.symm⟩,fun ⟨h1,h2⟩=>⟨h1.symm,h2.symm⟩⟩
theorem cut47_c (p : Str) (w : World) : Calls Tryz.prog 123 #[.string (bs p),.string ⟨#[47,47]⟩] w fun e w'=>e = .returned (.tuple #[.string (bs (if p.take 2 = [47,47] then p.drop 2 else p)),.bool (decide (p.take 2 = [47,47]))]) ∧ w = w':=
 (Tryz.strings_CutPrefix (bs p) ⟨#[47,47]⟩ w).mono fun _ _ ⟨he,hw⟩=>⟨by
  rw [he,bs_toList,← prefix47]
  have : Lib.trimPrefix p [47,47] = if p.take 2 = [47,47] then p.drop 2 else p:=by
   unfold Lib.trimPrefix
   rw [prefix47]
   simp
  rw [← this]
  rfl,hw.symm⟩

theorem allc_step {ls : List Str} {k : Nat} {l : Str} (hk : ls[k]? = some l) (h : (ls.take k).all comp = true) (hc : comp l = true) : (ls.take (k + 1)).all comp = true:=by
 obtain ⟨hlt,he⟩:=List.getElem?_eq_some_iff.1 hk
 rw [List.take_succ_eq_append_getElem hlt,List.all_append,h,he]
 simp [hc]
theorem allc_stop {ls : List Str} {k : Nat} {l : Str} (hk : ls[k]? = some l) (hc : comp l = false) : ls.all comp = false:=by
 rw [List.all_eq_false]
 exact ⟨l,List.mem_of_getElem? hk,by simp [hc]⟩
theorem pathOf_pre {p : Str} (h : p.take 2 ≠ [47,47]) : pathOf p = none:=by
 rw [pathOf,pathParts,if_neg (fun hh=>h hh.1)]
theorem pathOf_few {p : Str} (h : (slash (p.drop 2)).length < 2) : pathOf p = none:=by
 unfold pathOf pathParts
 split
 ·rename_i l hl
  split at hl
  ·simp only [Option.some.injEq] at hl
   subst hl
   rw [if_neg (by omega)]
  ·cases hl
 ·rfl
theorem pathOf_bad {p : Str} (h : (slash (p.drop 2)).all comp = false) : pathOf p = none:=by
 rw [pathOf,pathParts,if_neg (fun hh=>by rw [h] at hh;exact absurd hh.2 (by simp))]
theorem pathOf_good {p : Str} (h1 : p.take 2 = [47,47]) (h2 : 2 ≤ (slash (p.drop 2)).length) (h3 : (slash (p.drop 2)).all comp = true) : pathOf p = some (slash (p.drop 2)):=by
 rw [pathOf,pathParts,if_pos ⟨h1,h3⟩]
 simp [h2]
def CompsEnd (p : Str) (w : World) (e : Ending) (w' : World) : Prop:=
 (∃ l,pathOf p = some l ∧ l = slash (p.drop 2) ∧ e = .returned (.tuple #[.slice (some ⟨w.heap.size,0,none⟩) l.length l.length,.bool true]) ∧ StrsG w' (some ⟨w.heap.size,0,none⟩) l) ∨
  (pathOf p = none ∧ ∃ A n c,e = .returned (.tuple #[.slice A n c,.bool false]))

set_option maxHeartbeats 1000000 in
theorem pcomps_c (p : Str) (w : World) (hp : p.length ≤ 48000000) (hM : MaxL w) :
  Calls Tryz.prog 115 #[.string (bs p),.int .i64 2] w fun e w'=>CompsEnd p w e w' ∧ Calm w w':=by
 have hcut:=cut47_c p w
 by_cases h2 : p.take 2 = [47,47]
 ·rw [if_pos h2,decide_eq_true h2] at hcut
  have hsp:=split_c (p.drop 2) w (by rw [List.length_drop];omega) hM
  have hsl:=slash_len (p.drop 2)
  rw [List.length_drop] at hsl
  obtain ⟨ls,hls⟩ : ∃ ls,slash (p.drop 2) = ls:=⟨_,rfl⟩
  obtain ⟨n,hn⟩ : ∃ n,ls.length = n:=⟨_,rfl⟩
  rw [hls,hn] at hsp hsl
  have Hls:=Lib.hid hls
  have Hn:=Lib.hid hn
  have H2:=Lib.hid h2
  have hn3 : n ≤ 48000000:=by omega
  clear hls hn h2 hM
  go_enter Tryz.func115,Tryz.ntmps115
  by_cases hn2 : n < 2
  ·have Hv : Hid (pathOf p = none):=pathOf_few (by rw [Hls.out,Hn.out];exact hn2)
   go_wp2_with (first | (go_at_call 123;refine hcut.mono ?_;rintro e w' ⟨rfl,rfl⟩) | (go_at_call 102;refine hsp.mono ?_;rintro e w2 ⟨rfl,hc2,hst2⟩))
   go_ret2
   exact ⟨.inr ⟨Hv.out,_,_,_,rfl⟩,hc2⟩
  ·go_wp2_with (first | (go_at_call 123;refine hcut.mono ?_;rintro e w' ⟨rfl,rfl⟩) | (go_at_call 102;refine hsp.mono ?_;rintro e w2 ⟨rfl,hc2,hst2⟩))
   have HS:=Lib.hid hst2
   have HC:=Lib.hid hc2
   clear hst2 hc2 hsp hcut
   go_loop [26] (fun q=>∃ k : Nat,k ≤ n ∧ q = .int .i64 k ∧ Hid ((ls.take k).all comp = true)) (fun q=>n - (intOf q).toNat)
   case atStart=>exact ⟨0,Nat.zero_le _,rfl,rfl⟩
   case round=>
    obtain ⟨k,hk,rfl,HA⟩:=hrel
    by_cases hlt : k < n
    ·obtain ⟨b,o,l,hA,hb,hl,hll,hcell⟩:=HS.out.get (k:=k) (by rw [Hn.out];exact hlt)
     obtain ⟨rfl,rfl⟩ : w.heap.size = b ∧ 0 = o:=by simpa using hA
     have HL:=Lib.hid hl
     clear hl hA
     rw [Nat.zero_add] at hcell
     rcases hco : comp l with _ | _
     ·go_wp2_with (go_at_call 101;refine (comp_v _ _ _ hll hco).mono ?_;rintro e w' ⟨rfl,rfl⟩)
      go_ret2
      exact ⟨.inr ⟨pathOf_bad (by rw [Hls.out];exact allc_stop HL.out hco),_,_,_,rfl⟩,HC.out⟩
     ·go_wp2_with (go_at_call 101;refine (comp_v _ _ _ hll hco).mono ?_;rintro e w' ⟨rfl,rfl⟩)
      go_round
      case rel=>exact ⟨k + 1,by omega,by go_num,allc_step HL.out HA.out hco⟩
      case measure=>simp [intOf];omega
    ·go_wp2
     go_ret2
     have hall : ls.all comp = true:=by
      have:=HA.out
      rw [List.take_of_length_le (by rw [Hn.out];omega)] at this
      exact this
     exact ⟨.inl ⟨ls,by rw [pathOf_good H2.out (by rw [Hls.out,Hn.out];omega) (by rw [Hls.out];exact hall),Hls.out],Hls.out.symm,(by rw [Hn.out];rfl),HS.out⟩,HC.out⟩
 ·rw [if_neg h2,decide_eq_false h2] at hcut
  have Hv : Hid (pathOf p = none):=pathOf_pre h2
  clear h2
  go_enter Tryz.func115,Tryz.ntmps115
  go_wp2_with (go_at_call 123;refine hcut.mono ?_;rintro e w' ⟨rfl,rfl⟩)
  go_ret2
  exact ⟨.inr ⟨Hv.out,_,_,_,rfl⟩,Calm.refl w⟩

theorem pcomps_yes (p : Str) (l : List Str) (w : World) (hp : p.length ≤ 48000000) (hM : MaxL w) (h : pathOf p = some l) :
  Calls Tryz.prog 115 #[.string (bs p),.int .i64 2] w fun e w'=>e = .returned (.tuple #[.slice (some ⟨w.heap.size,0,none⟩) l.length l.length,.bool true]) ∧ Calm w w' ∧ StrsG w' (some ⟨w.heap.size,0,none⟩) l:=
 (pcomps_c p w hp hM).mono fun e w' ⟨h1,h2⟩=>by
  rcases h1 with ⟨m,h3,_,h4,h5⟩ | ⟨h3,_⟩
  ·rw [h] at h3
   cases h3
   exact ⟨h4,h2,h5⟩
  ·rw [h] at h3
   cases h3
theorem pcomps_no (p : Str) (w : World) (hp : p.length ≤ 48000000) (hM : MaxL w) (h : pathOf p = none) :
  Calls Tryz.prog 115 #[.string (bs p),.int .i64 2] w fun e w'=>∃ A n c,e = .returned (.tuple #[.slice A n c,.bool false]) ∧ Calm w w':=
 (pcomps_c p w hp hM).mono fun e w' ⟨h1,h2⟩=>by
  rcases h1 with ⟨m,h3,_⟩ | ⟨_,A,n,c,h4⟩
  ·rw [h] at h3
   cases h3
  ·exact ⟨A,n,c,h4,h2⟩

theorem psplit_yes (p : Str) (l : List Str) (w : World) (hp : p.length ≤ 48000000) (hM : MaxL w) (h : pathOf p = some l) :
  Calls Tryz.prog 98 #[.string (bs p)] w fun e w'=>e = .returned (.tuple #[.slice (some ⟨w.heap.size,0,none⟩) l.length l.length,.int .i64 0]) ∧ Calm w w' ∧ StrsG w' (some ⟨w.heap.size,0,none⟩) l:=by
 have hc:=pcomps_yes p l w hp hM h
 clear h hM
 go_enter Tryz.func98,Tryz.ntmps98
 go_wp2_with (go_at_call 115;refine hc.mono ?_;rintro e w2 ⟨rfl,hc2,hst2⟩)
 go_ret2
 exact ⟨rfl,hc2,hst2⟩
theorem psplit_no (p : Str) (w : World) (hp : p.length ≤ 48000000) (hM : MaxL w) (h : pathOf p = none) :
  Calls Tryz.prog 98 #[.string (bs p)] w fun e w'=>e = .returned (.tuple #[.slice none 0 0,.int .i64 20]) ∧ Calm w w':=by
 have hc:=pcomps_no p w hp hM h
 clear h hM
 go_enter Tryz.func98,Tryz.ntmps98
 go_wp2_with (go_at_call 115;refine hc.mono ?_;rintro e w2 ⟨A2,n2,c2,rfl,hc2⟩)
 go_ret2
 exact ⟨rfl,hc2⟩
theorem qsplit_yes (p : Str) (l : List Str) (w : World) (hp : p.length ≤ 48000000) (hM : MaxL w) (h : pathOf p = some l) :
  Calls Tryz.prog 74 #[.string (bs p)] w fun e w'=>e = .returned (.tuple #[.slice (some ⟨w.heap.size,0,none⟩) l.length l.length,.bool true]) ∧ Calm w w' ∧ StrsG w' (some ⟨w.heap.size,0,none⟩) l:=by
 have hc:=psplit_yes p l w hp hM h
 clear h hM
 go_enter Tryz.func74,Tryz.ntmps74
 go_wp2_with (go_at_call 98;refine hc.mono ?_;rintro e w2 ⟨rfl,hc2,hst2⟩)
 go_ret2
 exact ⟨rfl,hc2,hst2⟩
theorem qsplit_no (p : Str) (w : World) (hp : p.length ≤ 48000000) (hM : MaxL w) (h : pathOf p = none) :
  Calls Tryz.prog 74 #[.string (bs p)] w fun e w'=>e = .returned (.tuple #[.slice none 0 0,.bool false]) ∧ Calm w w':=by
 have hc:=psplit_no p w hp hM h
 clear h hM
 go_enter Tryz.func74,Tryz.ntmps74
 go_wp2_with (go_at_call 98;refine hc.mono ?_;rintro e w2 ⟨rfl,hc2⟩)
 go_ret2
 exact ⟨rfl,hc2⟩
end Go.Proofs.YthopphabeddnfaaGreatDoor
set_option linter.unusedVariables false
set_option linter.unusedSimpArgs false
namespace Go.Proofs.YthopphabeddnfaaGreatDoor
open Go Go.RowKit Sy

theorem join_drop_le : ∀ (n : Nat) (l : List Str),(Lib.join (l.drop n) [47]).length ≤ (Lib.join l [47]).length
 |0,l=>by simp
 |n + 1,[]=>by simp
 |n + 1,[a]=>by simp [Lib.join,List.intercalate]
 |n + 1,a :: b :: t=>by
  have ih:=join_drop_le n (b :: t)
  rw [List.drop_succ_cons,join47_cons]
  simp only [List.length_append,List.length_cons]
  omega
theorem capt_cap1 {part c : Str} (hs : isStar part = true) (hm : mtch part c = true) : capt part c = cap1 part c:=by
 unfold mtch at hm
 rw [if_pos hs,Bool.and_eq_true] at hm
 unfold capt cap1
 rw [if_pos hs]
 unfold Lib.trimSuffix
 exact if_pos hm.1

theorem patErr_len {p : Pat} (h : patErr p = 0) : p.parts.length ≤ 12:=by
 unfold patErr at h
 split at h
 ·cases h
 ·split at h
  ·split at h
   ·cases h
   ·omega
  ·cases h
def MatchEnd (p : Pat) (s : Str) (e : Ending) (w' : World) : Prop:=
 (matchS p s = true ∧ ∃ A c,e = .returned (.tuple #[.slice A (capsS p s).length c,.bool true]) ∧ (capsS p s).length ≤ c ∧ StrsR w' A (capsS p s) ∧ c ≤ 9223372036854775807) ∨ (matchS p s = false ∧ e = .returned (.tuple #[.slice none 0 0,.bool false]))
theorem MatchEnd.no {p : Pat} {s : Str} {w' : World} (h : matchS p s = false) : MatchEnd p s (.returned (.tuple #[.slice none 0 0,.bool false])) w':=.inr ⟨h,rfl⟩
theorem capsS_yes {p : Pat} {s : Str} {l : List Str} (hl : pathOf s = some l) (h : matchS p s = true) : capsS p s = caps p l:=by
 rw [matchS,hl] at h
 rw [capsS,hl]
 simp only at h ⊢
 rw [if_pos h]
theorem MatchEnd.yes {p : Pat} {s : Str} {l ls : List Str} {w0 w' : World} {v : Value} (hl : pathOf s = some l) (hs : s.length ≤ 1100000) (h : matchS p s = true) (hc : ls = caps p l) (hp : p.parts.length ≤ 4190000) (ho : OwnS w0 w' v ls) : MatchEnd p s (.returned (.tuple #[v,.bool true])) w':=by
 obtain ⟨h2,h3,h4⟩:=pathOf_some hl
 have hjl : (Lib.join l [47]).length ≤ 1100000:=by
  rw [h4] at hs
  simp only [pathStr,List.length_cons] at hs
  omega
 have hle : ∀ x ∈ l,x.length ≤ 4194304:=by
  have hh : l = slash (Lib.join l [47]):=(slash_join l (by rintro rfl;simp at h2) (fun x hx=>comp_no47 (List.all_eq_true.1 h3 x hx))).symm
  intro x hx
  rw [hh] at hx
  have:=slash_each _ x hx
  omega
 have h5:=capsTo_length p l p.parts.length
 obtain ⟨A,c,rfl,hcc,hst⟩:=ho.strs (by
   rw [hc,caps,List.length_append]
   split <;> simp <;> omega) (fun x hx=>by
   rw [hc,caps,List.mem_append] at hx
   rcases hx with hx | hx
   ·exact capsTo_each hle _ x hx
   ·split at hx
    ·rw [List.mem_singleton.1 hx]
     have:=join_drop_le p.parts.length l
     omega
    ·cases hx)
 have e : capsS p s = ls:=by rw [capsS_yes hl h,hc]
 have hmax : c ≤ 9223372036854775807:=by
  rcases ho.own.2 with ⟨h1,h2⟩ | ⟨g,cap,cur,h1,_,_,_,h6,_⟩
  ·simp only [Value.slice.injEq] at h1
   omega
  ·simp only [Value.slice.injEq] at h1
   unfold maxLen at h6
   omega
 exact .inl ⟨h,A,c,by rw [e],by rw [e];exact hcc,by rw [e];exact hst,hmax⟩

set_option maxHeartbeats 2000000 in
theorem match_c (p : Pat) (s : Str) (A : Option Addr) (c : Nat) (w : World) (hs : s.length ≤ 1100000) (hr : StrsR w A p.parts) (hpc : p.parts.length ≤ c) (hc47 : c ≤ 9223372036854775807) (hM : MaxL w) :
  Calls Tryz.prog 51 #[.agg #[.slice A p.parts.length c,.bool p.rest],.string (bs s)] w fun e w'=>MatchEnd p s e w' ∧ Calm w w':=by
 have hlen:=hr.len
 obtain ⟨n,hn⟩ : ∃ n,p.parts.length = n:=⟨_,rfl⟩
 obtain ⟨re,hre⟩ : ∃ re,p.rest = re:=⟨_,rfl⟩
 obtain ⟨w1,hw1⟩ : ∃ w1,w1 = w.alloc (.cells #[.slice A n c,.bool re] 37):=⟨_,rfl⟩
 have hc1 : Calm w w1:=by rw [hw1];exact (Calm.refl w).alloc _
 have hs1 : w.heap.size < w1.heap.size:=by rw [hw1];simp
 have k0 : w1.cell? ⟨w.heap.size,0,none⟩ = some (.slice A n c):=by rw [hw1];simp
 have k1 : w1.cell? ⟨w.heap.size,1,none⟩ = some (.bool re):=by rw [hw1];simp
 obtain ⟨v,hv⟩ : ∃ v,patErr p = v:=⟨_,rfl⟩
 have hck : Hid (∀ W : World,Calm w1 W → Calls Tryz.prog 60 #[.agg #[.slice A n c,.bool re]] W fun e w'=>e = .returned (.int .i64 v) ∧ Calm W w'):=fun W hW=>by
  have:=pcheckG_c p A c W (StrsR.toG ((hr.calm hc1).calm hW)) hpc hc47
  rw [hn,hre,hv] at this
  exact this
 rw [hn,hre]
 rw [hn] at hlen
 have HR:=Lib.hid (hr.calm hc1)
 have HW:=Lib.hid hw1
 have HC:=Lib.hid hc1
 have HN:=Lib.hid hn
 have HRe:=Lib.hid hre
 have HV:=Lib.hid hv
 have HK:=Lib.hid (And.intro hs1 (And.intro k0 k1))
 have HM:=Lib.hid (hM.calm hc1)
 clear hn hre hw1 hc1 hs1 k0 k1 hr hv hpc hM
 go_enter Tryz.func51,Tryz.ntmps51
 rcases hpo : pathOf s with _ | l
 ·have hno : matchS p s = false:=by rw [matchS,hpo]
  have hq:=qsplit_no s w1 (by omega) HM.out hpo
  have HE:=Lib.hid hno
  clear hpo hno hck
  go_wp2_with (go_at_call 74;rw [← HW.out];refine hq.mono ?_;rintro e w2 ⟨rfl,hc2⟩)
  go_ret2
  exact ⟨MatchEnd.no HE.out,HC.out.trans hc2⟩
 ·have hq:=qsplit_yes s l w1 (by omega) HM.out hpo
  obtain ⟨m,hm⟩ : ∃ m,l.length = m:=⟨_,rfl⟩
  rw [hm] at hq
  have HPo:=Lib.hid hpo
  have HL:=Lib.hid hm
  by_cases hv0 : v = 0
  ·subst hv0
   have h12 : n ≤ 12:=by rw [← HN.out];exact patErr_len HV.out
   have hokp : okPat p = true:=by rw [okPat,HV.out];rfl
   have HMS : Hid (matchS p s = (reaches p m && matchTo p l n)):=by
    show matchS p s = _
    rw [matchS,hpo]
    simp only
    rw [hokp,matchL_eq,hm,HN.out]
    rfl
   have hmb : m ≤ 4200000 ∧ ∀ x ∈ l,x.length ≤ 4194304:=by
    obtain ⟨h2,h3,h4⟩:=pathOf_some hpo
    have hh : l = slash (Lib.join l [47]):=(slash_join l (by rintro rfl;simp at h2) (fun x hx=>comp_no47 (List.all_eq_true.1 h3 x hx))).symm
    rw [h4] at hs
    simp only [pathStr,List.length_cons] at hs
    refine ⟨?_,fun x hx=>?_⟩
    ·have:=slash_len (Lib.join l [47])
     rw [← hh] at this
     omega
    ·rw [hh] at hx
     have:=slash_each _ x hx
     omega
   have hm2:=hmb.1
   have HEach:=Lib.hid hmb.2
   clear hpo hokp hmb hm
   cases re with
   |false=>
    rcases Nat.lt_trichotomy m n with hmn | hmn | hmn
    ·have hv : Hid (matchS p s = false):=by
      show matchS p s = false
      rw [HMS.out]
      have : reaches p m = false:=by rw [reaches,HRe.out,HN.out];simp;omega
      rw [this]
      rfl
     go_wp2_with (first
      |(go_at_call 74;rw [← HW.out];refine hq.mono ?_;rintro e w2 ⟨rfl,hc2,hst2⟩;have l0:=hc2.at_ HK.out.2.1 HK.out.1;have l1:=hc2.at_ HK.out.2.2 HK.out.1)
      |(go_at_call 60;refine (hck.out _ hc2).mono ?_;rintro e w3 ⟨rfl,hc3⟩;have r0:=(hc2.trans hc3).at_ HK.out.2.1 HK.out.1;have r1:=(hc2.trans hc3).at_ HK.out.2.2 HK.out.1))
     go_ret2
     exact ⟨MatchEnd.no hv.out,HC.out.trans (hc2.trans hc3)⟩
    ·obtain rfl : n = m:=hmn.symm
     have HRc : Hid (reaches p n = true):=by
      show reaches p n = true
      rw [reaches,HRe.out,HN.out]
      simp
     go_wp2_with (first
      |(go_at_call 74;rw [← HW.out];refine hq.mono ?_;rintro e w2 ⟨rfl,hc2,hst2⟩;have l0:=hc2.at_ HK.out.2.1 HK.out.1;have l1:=hc2.at_ HK.out.2.2 HK.out.1)
      |(go_at_call 60;refine (hck.out _ hc2).mono ?_;rintro e w3 ⟨rfl,hc3⟩;have r0:=(hc2.trans hc3).at_ HK.out.2.1 HK.out.1;have r1:=(hc2.trans hc3).at_ HK.out.2.2 HK.out.1))
     have HC3:=Lib.hid (hc2.trans hc3)
     have HSt:=Lib.hid (hst2.calm hc3)
     have HSz:=Lib.hid (HK.out.1)
     clear hq hck hc2 hc3 hst2 l0 l1 r0 r1
     go_loopw [9,45] (fun v q wr=>∃ k : Nat,k ≤ n ∧ q = .int .i64 k ∧ Hid (OwnS w3 wr v (capsTo p l k)) ∧ Hid (matchTo p l k = true)) (fun _ q _=>n - (intOf q).toNat)
     case atStart=>exact ⟨0,Nat.zero_le _,rfl,OwnS.nil (Calm.refl _),rfl⟩
     case round=>
      obtain ⟨k,hk,rfl,HO,HT⟩:=hrel
      by_cases hlt : k < n
      ·obtain ⟨bb,o,part,rfl,hbb,hpt,hpl,hpc⟩:=(HR.out.calm (HC3.out.trans HO.out.calm)).get (k:=k) (by rw [HN.out];exact hlt)
       obtain ⟨cb,co,x,hA,hcb,hx,_,hxc⟩:=(HSt.out.calm HO.out.calm).get (k:=k) (by rw [HL.out];omega)
       obtain ⟨rfl,rfl⟩ : w1.heap.size = cb ∧ 0 = co:=by simpa using hA
       rw [Nat.zero_add] at hxc
       have hxl:=HEach.out x (List.mem_of_getElem? hx)
       have hpa : pAt p k = part:=by simp [pAt,List.getD_eq_getElem?_getD,hpt]
       have hxd : l.getD k [] = x:=by rw [List.getD_eq_getElem?_getD,hx];rfl
       have HPa:=Lib.hid hpa
       have HX:=Lib.hid hxd
       have hcl:=capsTo_length p l k
       have hcl2 : (capsTo p l k).length ≤ 16000000:=by omega
       have hkm : k < n:=by omega
       clear hA hpt hx hpa hxd hcl
       rcases hmt : mtch part x with _ | _
       ·have hmp:=mpart_c part x
        rw [hmt] at hmp
        have hv : Hid (matchS p s = false):=by
         show matchS p s = false
         rw [HMS.out,matchTo_stop hlt (by rw [HPa.out,HX.out];exact hmt),Bool.and_false]
        go_wp2_with (go_at_call 75;refine (hmp _ hpl (by omega)).mono ?_;rintro e w' ⟨rfl,rfl⟩)
        go_ret2
        exact ⟨MatchEnd.no hv.out,HC.out.trans (HC3.out.trans HO.out.calm)⟩
       ·have hmp:=mpart_c part x
        rw [hmt] at hmp
        have hT2 : Hid (matchTo p l (k + 1) = true):=by
         show matchTo p l (k + 1) = true
         rw [matchTo_succ,HT.out,HPa.out,HX.out,hmt]
         rfl
        rcases hst : isStar part with _ | _
        ·have hcs : Hid (capsTo p l (k + 1) = capsTo p l k):=by
          show capsTo p l (k + 1) = _
          rw [capsTo_succ,HPa.out,hst]
          simp
         go_wp2_with (first
          |(go_at_call 75;refine (hmp _ hpl (by omega)).mono ?_;rintro e w' ⟨rfl,rfl⟩)
          |(go_at_call 76;refine (isStar_v _ _ _ hst).mono ?_;rintro e w' ⟨rfl,rfl⟩))
         go_roundw
         case rel=>exact ⟨k + 1,by omega,by go_num,(by rw [hcs.out];exact HO.out),hT2⟩
         case measure=>simp [intOf];omega
        ·have hcs : Hid (capsTo p l (k + 1) = capsTo p l k ++ [capt part x]):=by
          show capsTo p l (k + 1) = _
          rw [capsTo_succ,HPa.out,HX.out,hst,capt_cap1 hst hmt]
          rfl
         go_wp2_with (first
          |(go_at_call 75;refine (hmp _ hpl (by omega)).mono ?_;rintro e w' ⟨rfl,rfl⟩)
          |(go_at_call 76;refine (isStar_v _ _ _ hst).mono ?_;rintro e w' ⟨rfl,rfl⟩)
          |(at_builtin;refine wpList_append_str rfl (.tmp 63) (.tmp 65) rfl w3 _ (capsTo p l k) rfl (HO.out.to ((Calm.refl wr).alloc (.cells #[.string (bs (capt part x))] 9))) wr.heap.size 0 1 rfl (capt part x) (by simp) hcl2 ?_;intro v5 w5 hown5 hgrow5))
         go_roundw
         case rel=>exact ⟨k + 1,by omega,by go_num,(by rw [hcs.out];exact hown5),hT2⟩
         case measure=>simp [intOf];omega
      ·obtain rfl : k = n:=by omega
       have hms : Hid (matchS p s = true):=by
        show matchS p s = true
        rw [HMS.out,HRc.out,HT.out]
        rfl
       have r1:=(HC3.out.trans HO.out.calm).at_ HK.out.2.2 HK.out.1
       have hf : Hid (capsTo p l k = caps p l):=by
        show _ = caps p l
        rw [caps,HN.out,HRe.out]
        simp
       go_wp2_with fail
       go_ret2
       exact ⟨MatchEnd.yes HPo.out hs hms.out hf.out (by rw [HN.out];omega) HO.out,HC.out.trans (HC3.out.trans HO.out.calm)⟩
    ·have hv : Hid (matchS p s = false):=by
      show matchS p s = false
      rw [HMS.out]
      have : reaches p m = false:=by rw [reaches,HRe.out,HN.out];simp;omega
      rw [this]
      rfl
     go_wp2_with (first
      |(go_at_call 74;rw [← HW.out];refine hq.mono ?_;rintro e w2 ⟨rfl,hc2,hst2⟩;have l0:=hc2.at_ HK.out.2.1 HK.out.1;have l1:=hc2.at_ HK.out.2.2 HK.out.1)
      |(go_at_call 60;refine (hck.out _ hc2).mono ?_;rintro e w3 ⟨rfl,hc3⟩;have r0:=(hc2.trans hc3).at_ HK.out.2.1 HK.out.1;have r1:=(hc2.trans hc3).at_ HK.out.2.2 HK.out.1))
     go_ret2
     exact ⟨MatchEnd.no hv.out,HC.out.trans (hc2.trans hc3)⟩
   |true=>
    rcases Nat.lt_trichotomy m n with hmn | hmn | hmn
    ·have hv : Hid (matchS p s = false):=by
      show matchS p s = false
      rw [HMS.out]
      have : reaches p m = false:=by rw [reaches,HRe.out,HN.out];simp;omega
      rw [this]
      rfl
     go_wp2_with (first
      |(go_at_call 74;rw [← HW.out];refine hq.mono ?_;rintro e w2 ⟨rfl,hc2,hst2⟩;have l0:=hc2.at_ HK.out.2.1 HK.out.1;have l1:=hc2.at_ HK.out.2.2 HK.out.1)
      |(go_at_call 60;refine (hck.out _ hc2).mono ?_;rintro e w3 ⟨rfl,hc3⟩;have r0:=(hc2.trans hc3).at_ HK.out.2.1 HK.out.1;have r1:=(hc2.trans hc3).at_ HK.out.2.2 HK.out.1))
     go_ret2
     exact ⟨MatchEnd.no hv.out,HC.out.trans (hc2.trans hc3)⟩
    ·obtain rfl : n = m:=hmn.symm
     have hv : Hid (matchS p s = false):=by
      show matchS p s = false
      rw [HMS.out]
      have : reaches p n = false:=by rw [reaches,HRe.out,HN.out];simp
      rw [this]
      rfl
     go_wp2_with (first
      |(go_at_call 74;rw [← HW.out];refine hq.mono ?_;rintro e w2 ⟨rfl,hc2,hst2⟩;have l0:=hc2.at_ HK.out.2.1 HK.out.1;have l1:=hc2.at_ HK.out.2.2 HK.out.1)
      |(go_at_call 60;refine (hck.out _ hc2).mono ?_;rintro e w3 ⟨rfl,hc3⟩;have r0:=(hc2.trans hc3).at_ HK.out.2.1 HK.out.1;have r1:=(hc2.trans hc3).at_ HK.out.2.2 HK.out.1))
     go_ret2
     exact ⟨MatchEnd.no hv.out,HC.out.trans (hc2.trans hc3)⟩
    ·have hd1 : decide (m < n) = false:=decide_eq_false (by omega)
     have hd2 : decide (n < m) = true:=decide_eq_true hmn
     have HRc : Hid (reaches p m = true):=by
      show reaches p m = true
      rw [reaches,HRe.out,HN.out]
      simp
      omega
     go_wp2_with (first
      |(go_at_call 74;rw [← HW.out];refine hq.mono ?_;rintro e w2 ⟨rfl,hc2,hst2⟩;have l0:=hc2.at_ HK.out.2.1 HK.out.1;have l1:=hc2.at_ HK.out.2.2 HK.out.1)
      |(go_at_call 60;refine (hck.out _ hc2).mono ?_;rintro e w3 ⟨rfl,hc3⟩;have r0:=(hc2.trans hc3).at_ HK.out.2.1 HK.out.1;have r1:=(hc2.trans hc3).at_ HK.out.2.2 HK.out.1))
     have HC3:=Lib.hid (hc2.trans hc3)
     have HSt:=Lib.hid (hst2.calm hc3)
     have HSz:=Lib.hid (HK.out.1)
     clear hq hck hc2 hc3 hst2 l0 l1 r0 r1
     go_loopw [9,45] (fun v q wr=>∃ k : Nat,k ≤ n ∧ q = .int .i64 k ∧ Hid (OwnS w3 wr v (capsTo p l k)) ∧ Hid (matchTo p l k = true)) (fun _ q _=>n - (intOf q).toNat)
     case atStart=>exact ⟨0,Nat.zero_le _,rfl,OwnS.nil (Calm.refl _),rfl⟩
     case round=>
      obtain ⟨k,hk,rfl,HO,HT⟩:=hrel
      by_cases hlt : k < n
      ·obtain ⟨bb,o,part,rfl,hbb,hpt,hpl,hpc⟩:=(HR.out.calm (HC3.out.trans HO.out.calm)).get (k:=k) (by rw [HN.out];exact hlt)
       obtain ⟨cb,co,x,hA,hcb,hx,_,hxc⟩:=(HSt.out.calm HO.out.calm).get (k:=k) (by rw [HL.out];omega)
       obtain ⟨rfl,rfl⟩ : w1.heap.size = cb ∧ 0 = co:=by simpa using hA
       rw [Nat.zero_add] at hxc
       have hxl:=HEach.out x (List.mem_of_getElem? hx)
       have hpa : pAt p k = part:=by simp [pAt,List.getD_eq_getElem?_getD,hpt]
       have hxd : l.getD k [] = x:=by rw [List.getD_eq_getElem?_getD,hx];rfl
       have HPa:=Lib.hid hpa
       have HX:=Lib.hid hxd
       have hcl:=capsTo_length p l k
       have hcl2 : (capsTo p l k).length ≤ 16000000:=by omega
       have hkm : k < m:=by omega
       clear hA hpt hx hpa hxd hcl
       rcases hmt : mtch part x with _ | _
       ·have hmp:=mpart_c part x
        rw [hmt] at hmp
        have hv : Hid (matchS p s = false):=by
         show matchS p s = false
         rw [HMS.out,matchTo_stop hlt (by rw [HPa.out,HX.out];exact hmt),Bool.and_false]
        go_wp2_with (go_at_call 75;refine (hmp _ hpl (by omega)).mono ?_;rintro e w' ⟨rfl,rfl⟩)
        go_ret2
        exact ⟨MatchEnd.no hv.out,HC.out.trans (HC3.out.trans HO.out.calm)⟩
       ·have hmp:=mpart_c part x
        rw [hmt] at hmp
        have hT2 : Hid (matchTo p l (k + 1) = true):=by
         show matchTo p l (k + 1) = true
         rw [matchTo_succ,HT.out,HPa.out,HX.out,hmt]
         rfl
        rcases hst : isStar part with _ | _
        ·have hcs : Hid (capsTo p l (k + 1) = capsTo p l k):=by
          show capsTo p l (k + 1) = _
          rw [capsTo_succ,HPa.out,hst]
          simp
         go_wp2_with (first
          |(go_at_call 75;refine (hmp _ hpl (by omega)).mono ?_;rintro e w' ⟨rfl,rfl⟩)
          |(go_at_call 76;refine (isStar_v _ _ _ hst).mono ?_;rintro e w' ⟨rfl,rfl⟩))
         go_roundw
         case rel=>exact ⟨k + 1,by omega,by go_num,(by rw [hcs.out];exact HO.out),hT2⟩
         case measure=>simp [intOf];omega
        ·have hcs : Hid (capsTo p l (k + 1) = capsTo p l k ++ [capt part x]):=by
          show capsTo p l (k + 1) = _
          rw [capsTo_succ,HPa.out,HX.out,hst,capt_cap1 hst hmt]
          rfl
         go_wp2_with (first
          |(go_at_call 75;refine (hmp _ hpl (by omega)).mono ?_;rintro e w' ⟨rfl,rfl⟩)
          |(go_at_call 76;refine (isStar_v _ _ _ hst).mono ?_;rintro e w' ⟨rfl,rfl⟩)
          |(at_builtin;refine wpList_append_str rfl (.tmp 63) (.tmp 65) rfl w3 _ (capsTo p l k) rfl (HO.out.to ((Calm.refl wr).alloc (.cells #[.string (bs (capt part x))] 9))) wr.heap.size 0 1 rfl (capt part x) (by simp) hcl2 ?_;intro v5 w5 hown5 hgrow5))
         go_roundw
         case rel=>exact ⟨k + 1,by omega,by go_num,(by rw [hcs.out];exact hown5),hT2⟩
         case measure=>simp [intOf];omega
      ·obtain rfl : k = n:=by omega
       have hms : Hid (matchS p s = true):=by
        show matchS p s = true
        rw [HMS.out,HRc.out,HT.out]
        rfl
       have r1:=(HC3.out.trans HO.out.calm).at_ HK.out.2.2 HK.out.1
       have hB:=(HSt.out.calm HO.out.calm).at_
       obtain ⟨cb,co,hA,hcb,hcells⟩:=hB (by rw [HL.out];omega)
       obtain ⟨rfl,rfl⟩ : w1.heap.size = cb ∧ 0 = co:=by simpa using hA
       have hj:=join_off_c (l.drop k) w1.heap.size k (m - k) wr (fun j y hy=>by
         rw [List.getElem?_drop] at hy
         have:=hcells (k + j) y hy
         rw [Nat.zero_add] at this
         exact this) hcb (by rw [List.length_drop,HL.out];exact Nat.le_refl _) (by rw [List.length_drop,HL.out];omega) (fun y hy=>Nat.le_trans (HEach.out y (List.mem_of_mem_drop hy)) (by decide))
       rw [List.length_drop,HL.out] at hj
       have hcl:=capsTo_length p l k
       have hcl2 : (capsTo p l k).length ≤ 16000000:=by omega
       have hf : Hid (capsTo p l k ++ [Lib.join (l.drop k) [47]] = caps p l):=by
        show _ = caps p l
        rw [caps,HN.out,HRe.out]
        rfl
       clear hB hA hcells hcl
       go_wp2_with (first
        |(go_at_call 64;refine hj.mono ?_;rintro e w4 ⟨rfl,hc4⟩)
        |(at_builtin;refine wpList_append_str rfl (.tmp 70) (.tmp 75) rfl w3 _ (capsTo p l k) rfl (HO.out.to (hc4.alloc (.cells #[.string (bs (Lib.join (l.drop k) [47]))] 9))) w4.heap.size 0 1 rfl (Lib.join (l.drop k) [47]) (by simp) hcl2 ?_;intro v5 w5 hown5 hgrow5))
       go_ret2
       exact ⟨MatchEnd.yes HPo.out hs hms.out hf.out (by rw [HN.out];omega) hown5,HC.out.trans (HC3.out.trans hown5.calm)⟩
  ·have hno : matchS p s = false:=by
    rw [matchS,hpo]
    have : okPat p = false:=by rw [okPat,HV.out];simpa using hv0
    simp [this]
   have HE:=Lib.hid hno
   have hvb : (v != 0) = true:=by simpa using hv0
   clear hpo hno hv0 hm
   go_wp2_with (first
    |(go_at_call 74;rw [← HW.out];refine hq.mono ?_;rintro e w2 ⟨rfl,hc2,hst2⟩;have l0:=hc2.at_ HK.out.2.1 HK.out.1;have l1:=hc2.at_ HK.out.2.2 HK.out.1)
    |(go_at_call 60;refine (hck.out _ hc2).mono ?_;rintro e w3 ⟨rfl,hc3⟩))
   go_ret2
   exact ⟨MatchEnd.no HE.out,HC.out.trans (hc2.trans hc3)⟩
end Go.Proofs.YthopphabeddnfaaGreatDoor
