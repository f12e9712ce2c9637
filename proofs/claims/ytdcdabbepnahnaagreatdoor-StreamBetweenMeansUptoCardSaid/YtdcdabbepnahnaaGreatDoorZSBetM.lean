/- The law that a stream's storage and its parent's are related for the shared paths answers true for every input of at most 1048576 values and letters and leaves its arguments as they were. The two listed tables hold what the library lays. -/
import Derived.Test.YtdcdabbepnahnaaGreatDoorCards
import Derived.Test.YtdcdabbepnahnaaGreatDoorTie
import Derived.WalkKit
import Derived.ProofKit
import Derived.OpenShut
import Derived.Carry
import Derived.Deep.DeepHandedRow
import Derived.Lib.LaidTab
import GoSem.PinnedTables
import Derived.Test.YtdcdabbepnahnaaGreatDoorZLocate
import Derived.Test.YtdcdabbepnahnaaGreatDoorZCopyP
import Derived.Test.YtdcdabbepnahnaaGreatDoorZLawSrc
import Derived.Test.YtdcdabbepnahnaaGreatDoorZMapO
import Derived.Test.YtdcdabbepnahnaaGreatDoorZMapT
import Derived.Test.YtdcdabbepnahnaaGreatDoorZPcB
import Derived.Test.YtdcdabbepnahnaaGreatDoorZLawS4
import Derived.Test.YtdcdabbepnahnaaGreatDoorZFactsS
import Derived.Test.YtdcdabbepnahnaaGreatDoorZOpenStr
set_option linter.unusedVariables false
set_option linter.unusedSimpArgs false
namespace Go.Proofs.YtdcdabbepnahnaaGreatDoor
open Go Go.RowKit Sy

def ancsOf (ss : List Strm) (i : Nat) : List Str:=(above ss i).map fun p=>(strm ss p).name
def AncEnd (ss : List Strm) (nm : Str) (e : Ending) (w' : World) : Prop:=
 (∃ x,x ≠ 0 ∧ readyE ss nm = x ∧ e = .returned (.tuple #[.slice none 0 0,.int .i64 x])) ∨
 (∃ i A c,readyE ss nm = 0 ∧ Sy.Good ss ∧ findI ss nm = some i ∧ e = .returned (.tuple #[.slice A (ancsOf ss i).length c,.int .i64 0]) ∧ StrsU w' A (ancsOf ss i) ∧ (ancsOf ss i).length ≤ c)
theorem map_take_snoc {α β : Type} (f : α → β) {l : List α} {k : Nat} {x : α} (h : l[k]? = some x) : (l.take (k + 1)).map f = (l.take k).map f ++ [f x]:=by
 obtain ⟨hlt,rfl⟩:=List.getElem?_eq_some_iff.1 h
 rw [List.take_succ_eq_append_getElem hlt,List.map_append]
 rfl

set_option maxHeartbeats 2000000 in
theorem anc_c (ss : List Strm) (nm : Str) (A : Option Addr) (n c : Nat) (w : World) (hs : StrmsU w A ss) (hn : ss.length = n) (hnm : nm.length ≤ 1048576) :
  Calls Tryz.prog 18 #[.slice A n c,.string (bs nm)] w fun e w'=>AncEnd ss nm e w' ∧ Calm w w':=by
 have hk:=find_c ss nm A n c w hs hn hnm
 have HN:=Lib.hid hn
 clear hs hn
 go_enter Tryz.func18,Tryz.ntmps18
 go_wp2_with fail
 refine hk.mono ?_
 rintro e w1 ⟨hend,hc1⟩
 rcases hend with ⟨x,hx0,hr,rfl⟩ | ⟨F,i,hr,hg,hfi,rfl,hf⟩
 ·have hxb : (x != 0) = true:=by simpa using hx0
  have HR:=Lib.hid hr
  have H0:=Lib.hid hx0
  clear hx0 hr hk
  go_wp2_with fail
  go_ret2
  exact ⟨.inl ⟨x,H0.out,HR.out,rfl⟩,hc1⟩
 ·have hil : i < n:=by rw [← HN.out];exact findI_lt hfi
  have hka:=above_c ss F A n c i w1 hf hil
  obtain ⟨l0,hl⟩ : ∃ l,above ss i = l:=⟨_,rfl⟩
  have hel : Hid (∀ p ∈ l0,p < n):=fun p hp=>by
   rw [← HN.out]
   exact above_lt (i:=i) (by rw [hl];exact hp)
  obtain ⟨m,hm⟩ : ∃ m,l0.length = m:=⟨_,rfl⟩
  have hm16 : m ≤ 5:=by
   rw [← hm,← hl]
   exact hg.short (by rw [HN.out];exact hil)
  unfold AboveEnd at hka
  rw [hl,hm] at hka
  have HE : Hid (∀ (W : World) (A2 : Option Addr) (c2 : Nat),StrsU W A2 (l0.map fun p=>(strm ss p).name) → m ≤ c2 → AncEnd ss nm (.returned (.tuple #[.slice A2 m c2,.int .i64 0])) W):=fun W A2 c2 hU hroom=>by
   refine .inr ⟨i,A2,c2,hr,hg,hfi,?_,?_,by unfold ancsOf;rw [hl,List.length_map,hm];exact hroom⟩
   ·unfold ancsOf
    rw [hl,List.length_map,hm]
   ·unfold ancsOf
    rw [hl]
    exact hU
  have HNm : Hid (∀ p ∈ l0,(strm ss p).name.length ≤ 24):=fun p hp=>(ownErr_zero (hg.own p (by rw [HN.out];exact hel.out p hp))).2.1
  have HM:=Lib.hid hm
  have HF:=Lib.hid hf
  have HC1:=Lib.hid hc1
  clear hr hfi hf hg hk hl hm hc1
  go_wp2_with (go_at_call 42;refine hka.mono ?_;rintro e w2 ⟨⟨VA,vc,rfl,hia⟩,hc2⟩)
  have HI:=Lib.hid hia
  have HC2:=Lib.hid hc2
  have HF2:=Lib.hid (HF.out.calm hc2)
  clear hia hc2 hka
  go_loopw [9,26] (fun v q wr=>∃ k : Nat,k ≤ m ∧ q = .int .i64 k ∧ Hid (OwnS w2 wr v ((l0.take k).map fun p=>(strm ss p).name))) (fun _ q _=>m - (intOf q).toNat)
  case atStart=>exact ⟨0,Nat.zero_le _,rfl,OwnS.nil (Calm.refl _)⟩
  case round=>
   obtain ⟨k,hk,rfl,HV⟩:=hrel
   by_cases hlt : k < m
   ·obtain ⟨p,hp⟩ : ∃ x,l0[k]? = some x:=⟨_,List.getElem?_eq_getElem (by rw [HM.out];exact hlt)⟩
    obtain ⟨g,rfl,hg,hat⟩:=HI.out.calm HV.out.calm (by rw [HM.out];omega)
    have c0:=hat k p hp
    have hpn : p < n:=hel.out p (List.mem_of_getElem? hp)
    have HP:=Lib.hid hp
    have f0:=Calm.at_ HV.out.calm HF2.out.c0 HF2.out.lt
    obtain ⟨b,o,s,PA,pc,rfl,hb,hr,hsat,hsu⟩:=HF2.out.strms.get (k:=p) (by rw [HN.out];exact hpn)
    have d0:=Calm.at_ HV.out.calm hsat.c0 hb
    obtain ⟨sn,hsn⟩ : ∃ sn,s.name = sn:=⟨_,rfl⟩
    rw [hsn] at d0
    have HX : Hid ((strm ss p).name = sn):=by show _ = _;rw [strm_at hr,hsn]
    have hlen : Hid (((l0.take k).map fun p=>(strm ss p).name).length ≤ 1000000):=by
     show _ ≤ _
     rw [List.length_map,List.length_take]
     omega
    clear hat hp hr hsat hsu hsn
    go_wp2_with (at_builtin;refine wpList_append_str rfl (.tmp 30) (.tmp 39) rfl w2 _ ((l0.take k).map fun p=>(strm ss p).name) rfl (HV.out.to ((Calm.refl wr).alloc (.cells #[.string (bs sn)] 9))) wr.heap.size 0 1 rfl sn (new_str _ rfl) hlen.out ?_;intro v5 w5 hown5 hgrow5)
    go_roundw
    case rel=>
     refine ⟨k + 1,by omega,by go_num,?_⟩
     show OwnS _ _ _ _
     rw [map_take_snoc _ HP.out,HX.out]
     exact hown5
    case measure=>simp [intOf];omega
   ·obtain rfl : k = m:=by omega
    have h1:=HV.out
    rw [List.take_of_length_le (by rw [HM.out];exact Nat.le_refl _)] at h1
    obtain ⟨A2,c2,e0,h2⟩:=own_newS h1.own (by rw [List.length_map,HM.out];omega) (fun l hl=>by
     obtain ⟨p,hp,rfl⟩:=List.mem_map.1 hl
     have:=HNm.out p hp
     omega)
    rw [List.length_map,HM.out] at e0
    have H2:=Lib.hid (HE.out wr A2 c2 h2.u (by have:=h2.room;rw [List.length_map,HM.out] at this;exact this))
    clear h1 h2
    subst e0
    have HCv:=Lib.hid HV.out.calm
    clear HV
    go_wp2
    go_ret2
    exact ⟨H2.out,HC1.out.trans (HC2.out.trans HCv.out)⟩
end Go.Proofs.YtdcdabbepnahnaaGreatDoor
set_option linter.unusedVariables false
set_option linter.unusedSimpArgs false
namespace Go.Proofs.YtdcdabbepnahnaaGreatDoor
open Go Go.RowKit Sy

theorem ready_good {ss : List Strm} (h : Sy.Good ss) {i : Nat} (hi : i < ss.length) : readyE ss (strm ss i).name = 0:=ready_ok (good_iff.2 h) (h.find hi)
theorem locE_good {ss : List Strm} (h : Sy.Good ss) {i : Nat} (hi : i < ss.length) (s : Str) : locE ss (strm ss i).name s = ((locI ss i s).1,(locI ss i s).2,0):=by
 rw [locE,if_pos (ready_good h hi),h.find hi]
 rfl
end Go.Proofs.YtdcdabbepnahnaaGreatDoor
set_option linter.unusedVariables false
set_option linter.unusedSimpArgs false
namespace Go.Proofs.YtdcdabbepnahnaaGreatDoor
open Go Go.RowKit Sy

end Go.Proofs.YtdcdabbepnahnaaGreatDoor
set_option linter.unusedVariables false
set_option linter.unusedSimpArgs false
namespace Go.Proofs.YtdcdabbepnahnaaGreatDoor.Sy

end Go.Proofs.YtdcdabbepnahnaaGreatDoor.Sy
set_option linter.unusedVariables false
set_option linter.unusedSimpArgs false
namespace Go.Proofs.YtdcdabbepnahnaaGreatDoor
open Go Go.RowKit Sy

theorem bet_small {ss : List Strm} (h : Sy.Good ss) (hz : StrmsZ ss) {i : Nat} (hi : i < ss.length) {es : List Ent} (hv : betI ss i = some es) : (∀ e ∈ es,SmallE e) ∧ es.length ≤ 32:=by
 unfold betI at hv
 rcases hps : pcs ss i with _ | ps
 ·rw [hps] at hv
  cases hv
 ·rw [hps] at hv
  simp only at hv
  have hm:=pcs_mean h i hi ps hps
  obtain ⟨js,a1,a2,a3⟩:=betP_at hv
  have hpl:=parent_len h hi
  refine ⟨fun x hx=>?_,?_⟩
  ·obtain ⟨k,hk,ex⟩:=List.mem_iff_getElem.1 hx
   have hk' : k < js.length:=by rw [a1];exact hk
   obtain ⟨q,e,hq,_,he,hxe⟩:=a3 k _ _ (List.getElem?_eq_getElem hk') (List.getElem?_eq_getElem hk)
   rw [ex] at hxe
   have ok:=hm.ok q (List.mem_of_getElem? hq)
   have oz:=pcs_z h hz i hi ps hps q (List.mem_of_getElem? hq)
   have hs:=(entOfP_z ok oz he).mono (L:=250) (by decide)
   rw [hxe]
   refine ⟨hs.lp,hs.ls,?_,fun y hy=>?_,hs.h⟩
   ·show (q.region.b.parts.set 0 _).length ≤ 300
    rw [List.length_set]
    exact pat_few (gErr_zero ok.g).1
   ·have:=stored_let oz.b (n:=(strm ss i).parent) (by omega) y hy
    omega
  ·have h32:=pcs_len h hps
   have hlt : ∀ j ∈ js,j < ps.length:=fun j hj=>by
    obtain ⟨k,hk,ej⟩:=List.mem_iff_getElem.1 hj
    have hk' : k < es.length:=by rw [← a1];exact hk
    obtain ⟨q,e,hq,_⟩:=a3 k j _ (by rw [List.getElem?_eq_getElem hk,ej]) (List.getElem?_eq_getElem hk')
    exact (List.getElem?_eq_some_iff.1 hq).1
   have hsub : js.length ≤ ps.length:=by
    have hnd : js.Nodup:=a2.imp fun {a b} hab=>by omega
    have:=List.Nodup.length_le_of_subset (l₂:=List.range ps.length) hnd (fun j hj=>List.mem_range.2 (hlt j hj))
    simpa using this
   omega
theorem src_len {ss : List Strm} (h : Sy.Good ss) {i : Nat} (hi : i < ss.length) {c : Str} (hc : c.length ≤ 200) (h1 : (locI ss i c).1 = 1) : (locI ss i c).2.length ≤ 300:=by
 obtain ⟨hu,he⟩:=locI_under (ss:=ss) (i:=i) (s:=c) (by rw [h1];decide)
 rw [he] at h1 ⊢
 have hn:=(ownErr_zero (h.own i hi)).2.1
 rcases see_src h hi (c:=c) (by rw [h1];decide) with ⟨_,e1⟩ | ⟨e1,_⟩
 ·rw [e1]
  simp only [List.length_append,List.length_cons,List.length_drop]
  omega
 ·rw [h1] at e1
  cases e1
theorem anc_ok {ss : List Strm} {nm : Str} {i : Nat} (hx : readyE ss nm = 0) (hfi : findI ss nm = some i) {e : Ending} {w' : World} (h : AncEnd ss nm e w') : ∃ VA vc,e = .returned (.tuple #[.slice VA (ancsOf ss i).length vc,.int .i64 0]) ∧ StrsU w' VA (ancsOf ss i) ∧ (ancsOf ss i).length ≤ vc:=by
 rcases h with ⟨x,hx0,hr,_⟩ | ⟨i',VA,vc,_,_,hf',he,hu,hr⟩
 ·rw [hx] at hr
  exact absurd hr.symm hx0
 ·rw [hfi] at hf'
  cases hf'
  exact ⟨VA,vc,he,hu,hr⟩
theorem hasPre_view {c : Str} (h : Lib.hasPrefix c [47,47,118,105,101,119,47] = true) : c = 47 :: 47 :: viewN ++ c.drop 6 ∧ Lib.trimPrefix c [47,47,118,105,101,119] = c.drop 6:=by
 unfold Lib.hasPrefix at h
 rw [List.isPrefixOf_iff_prefix] at h
 obtain ⟨r,rfl⟩:=h
 exact ⟨rfl,by simp [Lib.trimPrefix,Lib.hasPrefix]⟩

set_option maxRecDepth 100000 in
set_option maxHeartbeats 8000000 in
theorem strBetMeans_c (ss : List Strm) (nm s1 : Str) (A : Option Addr) (n c : Nat) (w : World) (hv : StrmsU w A ss) (hn : ss.length = n) (hnm : nm.length ≤ 1048576) (hl1 : s1.length ≤ 1048576) (hM : MaxL w) :
  Calls Tryz.prog 5 #[.slice A n c,.string (bs nm),.string (bs s1)] w fun e w'=>e = .returned (.bool true) ∧ Calm w w':=by
 obtain ⟨y,hy⟩ : ∃ y,smallS ss = y:=⟨_,rfl⟩
 have hsmall:=smallS_c ss y A n c w hv hn hy
 have hlen:=hv.len
 rw [hn] at hlen
 have hz1:=bs_size s1
 have KA : Hid (∀ W,Calm w W → Calls Tryz.prog 8 #[] W fun e w'=>e = .returned (.bool true) ∧ Calm W w'):=fun W hW=>awakeS_c W (hM.calm hW)
 cases y with
 |false=>
  clear hv hn hM hy
  go_enter Tryz.func5,Tryz.ntmps5
  go_wp2_with (first
   |(go_at_call 7;refine hsmall.mono ?_;rintro e w2 ⟨rfl,hc2⟩)
   |(go_at_call 8;refine (KA.out w2 hc2).mono ?_;rintro e w3 ⟨rfl,hc3⟩))
  go_ret
  exact ⟨rfl,hc2.trans hc3⟩
 |true=>
  obtain ⟨hsm,_⟩:=smallS_small hy
  have hsz:=smallS_z hy
  by_cases h1 : 200 < s1.length
  ·clear hv hn hM hy hsm hsz
   go_enter Tryz.func5,Tryz.ntmps5
   go_wp2_with (first
    |(go_at_call 7;refine hsmall.mono ?_;rintro e w2 ⟨rfl,hc2⟩)
    |(go_at_call 8;refine (KA.out w2 hc2).mono ?_;rintro e w3 ⟨rfl,hc3⟩))
   go_ret
   exact ⟨rfl,hc2.trans hc3⟩
  ·have KB : Hid (∀ W,Calm w W → Calls Tryz.prog 17 #[.slice A n c,.string (bs nm)] W fun e w'=>EntOut (betR ss nm).1 (betR ss nm).2 W.heap.size e w' ∧ Calm W w'):=fun W hW=>Between_c ss nm A n c W (hv.calm hW) hn hnm hsm hsz
   by_cases hbad : (betR ss nm).2 ≠ 0
   ·obtain ⟨es,hes⟩ : ∃ es,(betR ss nm).1 = es:=⟨_,rfl⟩
    obtain ⟨x,hx⟩ : ∃ x,(betR ss nm).2 = x:=⟨_,rfl⟩
    rw [hes,hx] at KB
    rw [hx] at hbad
    have hxb : (x != 0) = true:=by simpa using hbad
    obtain ⟨m,hm⟩ : ∃ m,es.length = m:=⟨_,rfl⟩
    have KB2 : Hid (∀ W,Calm w W → Calls Tryz.prog 17 #[.slice A n c,.string (bs nm)] W fun e w'=>(∃ A2 c2,e = .returned (.tuple #[.slice A2 m c2,.int .i64 x])) ∧ Calm W w'):=fun W hW=>(KB.out W hW).mono fun e w' ⟨⟨A2,c2,he,_⟩,hc⟩=>⟨⟨A2,c2,by rw [he,hm]⟩,hc⟩
    clear hes hx hm hbad KB hv hn hM hy hsm hsz
    go_enter Tryz.func5,Tryz.ntmps5
    go_wp2_with (first
     |(go_at_call 7;refine hsmall.mono ?_;rintro e w2 ⟨rfl,hc2⟩)
     |(go_at_call 17;refine (KB2.out w2 hc2).mono ?_;rintro e w3 ⟨⟨A2,c2,rfl⟩,hc3⟩)
     |(go_at_call 8;refine (KA.out w3 (hc2.trans hc3)).mono ?_;rintro e w4 ⟨rfl,hc4⟩))
    go_ret
    exact ⟨rfl,(hc2.trans hc3).trans hc4⟩
   ·have hb0 : (betR ss nm).2 = 0:=by simpa using hbad
    have hx : readyE ss nm = 0:=Classical.byContradiction fun h=>by
     rw [betR_bad h] at hb0
     exact h hb0
    obtain ⟨i,hg,hfi,hi,hE⟩:=locE_ok hx
    have hp0 : (strm ss i).parent ≠ []:=fun h=>by
     rw [betR_main hx hfi h] at hb0
     cases hb0
    rcases hpar : parentI ss i with _ | p
    ·exact absurd (hg.parent hi hpar) hp0
    rcases hbi : betI ss i with _ | es
    ·rw [betR_none hx hfi hp0 hbi] at hb0
     cases hb0
    rw [betR_some hx hfi hp0 hbi] at KB
    have hpl:=parentI_lt hpar
    obtain ⟨hse,h32⟩:=bet_small hg hsz hi hbi
    obtain ⟨m,hm⟩ : ∃ m,es.length = m:=⟨_,rfl⟩
    obtain ⟨ix,hix⟩ : ∃ ix,(mapE es).1 = ix:=⟨_,rfl⟩
    obtain ⟨er,her⟩ : ∃ er,(mapE es).2 = er:=⟨_,rfl⟩
    have hmo:=bet_mapE hg hi hpar hbi
    rw [her] at hmo
    have hnmi : (strm ss i).name = nm:=by
     obtain ⟨t,ht,h2,_⟩:=findI_some hfi
     rw [strm_at ht,h2]
    obtain ⟨pnm,hpnm⟩ : ∃ pnm,(strm ss p).name = pnm:=⟨_,rfl⟩
    have hpn : pnm.length ≤ 1048576:=by have:=(ownErr_zero (hg.own p hpl)).2.1;rw [hpnm] at this;omega
    obtain ⟨k,hk⟩ : ∃ k,(locI ss i s1).1 = k:=⟨_,rfl⟩
    obtain ⟨s,hs⟩ : ∃ s,(locI ss i s1).2 = s:=⟨_,rfl⟩
    obtain ⟨up,hup⟩ : ∃ up,(locI ss p s1).1 = up:=⟨_,rfl⟩
    obtain ⟨t,ht⟩ : ∃ t,(locI ss p s1).2 = t:=⟨_,rfl⟩
    obtain ⟨q,hq⟩ : ∃ q,(ancsOf ss i).length = q:=⟨_,rfl⟩
    have hanc : ancsOf ss i = pnm :: ancsOf ss p:=by
     unfold ancsOf
     rw [hg.some hpar,List.map_cons,hpnm]
    have hq0 : 0 < q:=by rw [← hq,hanc];simp
    have hqb : (q == 0) = false:=by rw [beq_eq_false_iff_ne];omega
    have K1 : Hid (∀ W,Calm w W → Calls Tryz.prog 13 #[.slice A n c,.string (bs nm),.string (bs s1)] W fun e w'=>e = .returned (.tuple #[.int .i64 k,.string (bs s),.int .i64 0]) ∧ Calm W w'):=fun W hW=>by
     have:=locate_c ss nm s1 A n c W (hv.calm hW) hn hnm (by omega) hsm (hM.calm hW)
     rw [hE s1] at this
     simp only [hk,hs] at this
     exact this
    have K2 : Hid (∀ W,Calm w W → Calls Tryz.prog 13 #[.slice A n c,.string (bs pnm),.string (bs s1)] W fun e w'=>e = .returned (.tuple #[.int .i64 up,.string (bs t),.int .i64 0]) ∧ Calm W w'):=fun W hW=>by
     have:=locate_c ss pnm s1 A n c W (hv.calm hW) hn hpn (by omega) hsm (hM.calm hW)
     have h3:=locE_good hg hpl s1
     rw [hpnm] at h3
     rw [h3] at this
     simp only [hup,ht] at this
     exact this
    have KN : Hid (∀ W,Calm w W → Calls Tryz.prog 18 #[.slice A n c,.string (bs nm)] W fun e w'=>(∃ b o vc,e = .returned (.tuple #[.slice (some ⟨b,o,none⟩) q vc,.int .i64 0]) ∧ b < w'.heap.size ∧ w'.cell? ⟨b,o,none⟩ = some (.string (bs pnm))) ∧ Calm W w'):=fun W hW=>(anc_c ss nm A n c W (hv.calm hW) hn hnm).mono fun e w' ⟨h,hc⟩=>⟨by
     obtain ⟨VA,vc,he,hu,_⟩:=anc_ok hx hfi h
     obtain ⟨b,o,z,rfl,hb,hz,_,hcell⟩:=hu.get (k:=0) (by rw [hq];exact hq0)
     rw [hanc] at hz
     obtain rfl : pnm = z:=by simpa using hz
     rw [Nat.add_zero] at hcell
     exact ⟨b,o,vc,by rw [he,hq],hb,hcell⟩,hc⟩
    have KB2 : Hid (∀ W,Calm w W → Calls Tryz.prog 17 #[.slice A n c,.string (bs nm)] W fun e w'=>(∃ A2 c2,e = .returned (.tuple #[.slice A2 m c2,.int .i64 0]) ∧ m ≤ c2 ∧ c2 ≤ 9223372036854775807 ∧ EntsA w' A2 es) ∧ Calm W w'):=fun W hW=>(KB.out W hW).mono fun e w' ⟨⟨A2,c2,he,g1,g2,zs,g3,g4,g5⟩,hc⟩=>⟨⟨A2,c2,by rw [he,hm],by rw [← hm];exact g1,g2,entsA_of g3 g4 g5 (by omega)⟩,hc⟩
    have KCk : Hid (∀ W A2 c2,EntsA W A2 es → m ≤ c2 → c2 ≤ 9223372036854775807 → Calls Tryz.prog 14 #[.slice A2 m c2] W fun e w'=>e = .returned (.tuple #[.int .i64 (ix : Nat),.int .i64 er]) ∧ Calm W w'):=fun W A2 c2 hW g1 g2=>by
     have:=check_c es m c2 A2 W hW g1 g2 hse hm
     rw [hix,her] at this
     exact this
    have HSh : Hid (k = 1 → up = 1 ∧ fwdM es s = some t ∧ s.length ≤ 300):=fun h=>by
     have hk1 : (locI ss i s1).1 = 1:=hk.trans h
     have hsl:=src_len hg hi (by omega) hk1
     rw [hs] at hsl
     obtain ⟨hu,he⟩:=locI_under (ss:=ss) (i:=i) (s:=s1) (by rw [hk1];decide)
     have he2 : locI ss p s1 = see ss p s1:=by
      unfold locI
      rw [if_pos hu]
     rw [he] at hk1
     obtain ⟨g1,g2⟩:=bet_share hg hi hpar hbi hu hk1
     rw [← he,hs,← he2,ht] at g2
     rw [← he2,hup] at g1
     exact ⟨g1,g2,hsl⟩
    have KF : Hid (er = 0 → k = 1 → ∀ W A2 c2,Calm w W → EntsA W A2 es → m ≤ c2 → c2 ≤ 9223372036854775807 → Calls Tryz.prog 16 #[.slice A2 m c2,.string (bs s)] W fun e w'=>e = .returned (.tuple #[.string (bs t),.bool true]) ∧ Calm W w'):=fun h0 hk0 W A2 c2 hw hW g1 g2=>by
     obtain ⟨_,hf,hl⟩:=HSh.out hk0
     have:=mfwd_c es s m c2 A2 W hW g1 g2 hm hse (by omega) (hM.calm hw)
     rw [mfV_eq] at this
     unfold mfS at this
     rw [her,if_pos h0,hf] at this
     exact this
    obtain ⟨d,hd⟩ : ∃ d,s1.drop 6 = d:=⟨_,rfl⟩
    have hdl : d.length ≤ 200:=by rw [← hd,List.length_drop];omega
    have hcat : (⟨#[47,47]⟩ : ByteArray) ++ bs nm ++ bs d = bs (47 :: 47 :: nm ++ d):=by
     rw [bs_append,show bs (47 :: 47 :: nm) = ⟨#[47,47]⟩ ++ bs nm from bs_append [47,47] nm]
    obtain ⟨hp,hhp⟩ : ∃ hp,Lib.hasPrefix s1 [47,47,118,105,101,119,47] = hp:=⟨_,rfl⟩
    have KH : Hid (∀ W,Calls Tryz.prog 19 #[.string (bs s1),.string ⟨#[47,47,118,105,101,119,47]⟩] W fun e w'=>e = .returned (.bool hp) ∧ w' = W):=fun W=>by
     have:=Tryz.strings_HasPrefix (bs s1) ⟨#[47,47,118,105,101,119,47]⟩ W
     rw [bs_toList,show ((⟨#[47,47,118,105,101,119,47]⟩ : ByteArray).data.toList) = [47,47,118,105,101,119,47] from rfl,hhp] at this
     exact this
    have KT : Hid (hp = true → ∀ W,Calls Tryz.prog 20 #[.string (bs s1),.string ⟨#[47,47,118,105,101,119]⟩] W fun e w'=>e = .returned (.string (bs d)) ∧ w' = W):=fun h W=>by
     have:=Tryz.strings_TrimPrefix (bs s1) ⟨#[47,47,118,105,101,119]⟩ W
     rw [bs_toList,show ((⟨#[47,47,118,105,101,119]⟩ : ByteArray).data.toList) = [47,47,118,105,101,119] from rfl,(hasPre_view (hhp.trans h)).2,hd] at this
     exact this
    have hnm24 : nm.length ≤ 24:=by
     rw [← hnmi]
     exact (ownErr_zero (hg.own i hi)).2.1
    have KF2 : Hid (er = 0 → k ≠ 1 → hp = true → ∀ W A2 c2,Calm w W → EntsA W A2 es → m ≤ c2 → c2 ≤ 9223372036854775807 → Calls Tryz.prog 16 #[.slice A2 m c2,.string ((⟨#[47,47]⟩ : ByteArray) ++ bs nm ++ bs d)] W fun e w'=>e = .returned (.tuple #[.string (bs []),.bool false]) ∧ Calm W w'):=fun h0 hk0 h9 W A2 c2 hw hW g1 g2=>by
     rw [hcat]
     have hno : fwdM es (47 :: 47 :: nm ++ d) = none:=by
      have:=bet_other hg hi hbi (c:=s1) (hasPre_view (hhp.trans h9)).1 (fun hu h=>hk0 (by
       rw [← hk]
       unfold locI
       rw [if_pos hu]
       exact h))
      rw [hnmi,hd] at this
      exact this
     have:=mfwd_c es (47 :: 47 :: nm ++ d) m c2 A2 W hW g1 g2 hm hse (by simp only [List.length_append,List.length_cons];omega) (hM.calm hw)
     rw [mfV_eq] at this
     unfold mfS at this
     rw [her,if_pos h0,hno] at this
     exact this
    have hdsz:=bs_size d
    have hnsz:=bs_size nm
    have hup1 : Hid (k = 1 → up = 1):=fun h=>(HSh.out h).1
    clear hv hn hM hy hsm hsz hnm hbad hb0 hx hg hfi hi hE hp0 hpar hbi hpl hse h32 hm hix her hnmi hpnm hpn hk hs hup ht hq hanc HSh hd hcat hhp KB hl1
    go_enter Tryz.func5,Tryz.ntmps5
    go_wp2_with (first
     |(go_at_call 7;refine hsmall.mono ?_;rintro e w2 ⟨rfl,hc2⟩)
     |(go_at_call 17;refine (KB2.out w2 hc2).mono ?_;rintro e w3 ⟨⟨A2,c2,rfl,g1,g2,hes⟩,hc3⟩;have HC3:=Lib.hid (hc2.trans hc3);have HEs:=Lib.hid (And.intro hes (And.intro g1 g2));clear hes g1 g2))
    refine (KCk.out w3 A2 c2 HEs.out.1 HEs.out.2.1 HEs.out.2.2).mono ?_
    rintro e w4 ⟨rfl,hc4⟩
    have HC4 : Hid (Calm w w4):=HC3.out.trans hc4
    have HE4 : Hid (EntsA w4 A2 es):=HEs.out.1.calm hc4
    clear hc4
    rcases hmo with rfl | rfl
    ·go_wp2_with fail
     refine (KN.out w4 HC4.out).mono ?_
     rintro e w5 ⟨⟨b,o,vc,rfl,hb,hcell⟩,hc5⟩
     have HC5 : Hid (Calm w w5):=HC4.out.trans hc5
     have HE5 : Hid (EntsA w5 A2 es):=HE4.out.calm hc5
     clear hc5
     go_wp2_with fail
     refine (K1.out w5 HC5.out).mono ?_
     rintro e w6 ⟨rfl,hc6⟩
     have HC6 : Hid (Calm w w6):=HC5.out.trans hc6
     have HE6 : Hid (EntsA w6 A2 es):=HE5.out.calm hc6
     have hcell:=Calm.at_ hc6 hcell hb
     have hb:=Nat.lt_of_lt_of_le hb hc6.size
     clear hc6
     go_wp2_with fail
     refine (K2.out w6 HC6.out).mono ?_
     rintro e w7 ⟨rfl,hc7⟩
     have HC7 : Hid (Calm w w7):=HC6.out.trans hc7
     have HE7 : Hid (EntsA w7 A2 es):=HE6.out.calm hc7
     clear hc7 hcell hb
     by_cases hk1 : k = 1
     ·have hup2:=hup1.out hk1
      have KF1:=Lib.hid (KF.out (by trivial) hk1)
      subst hk1 hup2
      go_wp2_with fail
      refine (KF1.out w7 A2 c2 HC7.out HE7.out HEs.out.2.1 HEs.out.2.2).mono ?_
      rintro e w8 ⟨rfl,hc8⟩
      have HC8 : Hid (Calm w w8):=HC7.out.trans hc8
      clear hc8
      go_wp2_with (go_at_call 8;refine (KA.out w8 HC8.out).mono ?_;rintro e w9 ⟨rfl,hc9⟩)
      go_ret
      exact ⟨rfl,HC8.out.trans hc9⟩
     ·have hkb : (k == 1) = false:=by rw [beq_eq_false_iff_ne];exact hk1
      have HK1:=Lib.hid hk1
      clear hk1
      cases hp with
      |false=>
       go_wp2_with (first
        |(go_at_call 19;refine (KH.out _).mono ?_;rintro e w8 ⟨rfl,rfl⟩)
        |(go_at_call 8;refine (KA.out _ HC7.out).mono ?_;rintro e w9 ⟨rfl,hc9⟩))
       go_ret
       exact ⟨rfl,HC7.out.trans hc9⟩
      |true=>
       have KT1:=Lib.hid (KT.out (by trivial))
       have KF3:=Lib.hid (KF2.out (by trivial) HK1.out (by trivial))
       clear KT KF2
       go_wp2_with (first
        |(go_at_call 19;refine (KH.out _).mono ?_;rintro e w8 ⟨rfl,rfl⟩)
        |(go_at_call 20;refine (KT1.out _).mono ?_;rintro e w8 ⟨rfl,rfl⟩)
        |(go_at_call 16;refine (KF3.out _ A2 c2 HC7.out HE7.out HEs.out.2.1 HEs.out.2.2).mono ?_;rintro e w8 ⟨rfl,hc8⟩;have HC8:=Lib.hid (HC7.out.trans hc8))
        |(go_at_call 8;refine (KA.out w8 HC8.out).mono ?_;rintro e w9 ⟨rfl,hc9⟩))
       go_ret
       exact ⟨rfl,HC8.out.trans hc9⟩
    ·go_wp2_with (go_at_call 8;refine (KA.out w4 HC4.out).mono ?_;rintro e w5 ⟨rfl,hc5⟩)
     go_ret
     exact ⟨rfl,HC4.out.trans hc5⟩
end Go.Proofs.YtdcdabbepnahnaaGreatDoor
set_option linter.unusedVariables false
set_option linter.unusedSimpArgs false
namespace Go.Proofs.YtdcdabbepnahnaaGreatDoor.streamBetweenMeansUpto
open Go.ChangeShapes Go.WideShapes Go.ChangeAt Go.RowKit Sy

theorem own : ownKnob Tryz.prog.godebug = none:=by kernel_rfl
theorem laidOut : laidOutB Tryz.prog = true:=by kernel_rfl
def accZ : List Int:=[128,191,160,191,128,159,144,191,128,143,0,0,0,0,0,0,0,0,0,0,0,0,0,0,0,0,0,0,0,0,0,0]

theorem maxL {W : World} (h : W.ShapedOpen Tryz.prog) : MaxL W:=by
 obtain ⟨m,hm⟩:=Tryz.laysM146.s1_3 W h
 exact ⟨(cell_lt hm).1,m,hm⟩

set_option maxRecDepth 100000 in
theorem contract (H : Type) (enc : TypeId × Value → H) (W : World) (base : Nat) (args : Array Value) (ds gs : List (DataW H)) (before : List MemPlace)
  (hval : ∀ (j : Nat) t v,Tryz.f5.params[j]? = some t → args[j]? = some v → Value.okWide Tryz.prog W .any base t v)
  (hW : DataW.Whole enc Tryz.prog Tryz.f5.params.toList Rows.streamBetweenMeansSpec.vars false W args.toList ds gs before)
  (hsz : (DataW.weightsEach Tryz.prog (Tryz.f5.params.toList ++ ((OpenSpec.ofChange Rows.streamBetweenMeansSpec).bare.plain.varTypes Tryz.prog)) (ds ++ gs)).all (· ≤ reachBytes) = true) (hk : Rows.uptoSmall H (ds ++ gs) = true) (hL : laidMetH Tryz.prog Rows.streamBetweenMeansUptoRow.laid W) (hsh : W.ShapedOpen Tryz.prog) :
  Calls Tryz.prog 5 args W fun e W'=>∃ v,e = .returned v ∧ Rows.streamBetweenMeansSpec.post enc Tryz.prog Tryz.f5 false true false false W args v W':=by
 have hW':=hW
 obtain ⟨p,q,hA0,hV,rfl,hfz,hnd⟩:=hW
 have hA : DataW.TrodAll enc Tryz.prog W 0 (fun _=>true) true Tryz.f5.params.toList args.toList ds p:=hA0
 rw [Tryz.params5] at hA hval hsz
 obtain ⟨v0,vs0,d0,ds0,p0,q0,hargs,rfl,rfl,h0,r0⟩:=trodAll_cons hA
 obtain ⟨v1,vs1,d1,ds1,p1,q1,rfl,rfl,rfl,h1,r1⟩:=trodAll_cons r0
 obtain ⟨v2,vs2,d2,ds2,p2,q2,rfl,rfl,rfl,h2,r2⟩:=trodAll_cons r1
 obtain ⟨rfl,rfl,rfl⟩:=trodAll_nil r2
 obtain rfl : args = #[v0,v1,v2]:=by cases args;simp_all
 obtain ⟨rfl,rfl⟩:=trodVars_none hV
 clear hA0
 simp only [List.append_nil] at hW'
 have hkb : Rows.uptoBulkAll [d0,d1,d2] ≤ 1048576:=of_decide_eq_true hk
 obtain ⟨SA,ss,sc,rfl,t1,t2,t3⟩:=open_strmsL (hval 0 22 v0 rfl rfl) h0 (bulks.all_part hkb (show d0 ∈ [d0,d1,d2] by simp))
 obtain ⟨s,rfl,hsd,hs1⟩:=open_strD (hval 1 9 v1 rfl rfl) h1
 have hsb:=bulks.all_part hkb (show d1 ∈ [d0,d1,d2] by simp)
 rw [hsd,bulks.string_eq] at hsb
 have hs1 : s.length ≤ 1048576:=by omega
 obtain ⟨s2,rfl,hsd2,hs12⟩:=open_strD (hval 2 9 v2 rfl rfl) h2
 have hsb2:=bulks.all_part hkb (show d2 ∈ [d0,d1,d2] by simp)
 rw [hsd2,bulks.string_eq] at hsb2
 have hs12 : s2.length ≤ 1048576:=by omega
 have hlt0 : ∀ x ∈ p0,x.block < W.heap.size:=fun x hx=>by simpa using hW'.lt x (by simp [hx])
 have hlt1 : ∀ x ∈ p1,x.block < W.heap.size:=fun x hx=>by simpa using hW'.lt x (by simp [hx])
 have hlt2 : ∀ x ∈ p2,x.block < W.heap.size:=fun x hx=>by simpa using hW'.lt x (by simp [hx])
 refine (strBetMeans_c ss s s2 SA ss.length sc W t1 rfl hs1 hs12 (maxL hsh)).mono fun e W' ⟨he,hg⟩=>?_
 subst he
 have h0' : DataW.Trod enc Tryz.prog W' 0 (fun b=>decide (b < W.heap.size)) true 22 _ _ p0:=Below.trod laidOut (by kernel_rfl) (of_decide_eq_true (by kernel_rfl)) h0 hg hlt0
 have h1' : DataW.Trod enc Tryz.prog W' 0 (fun b=>decide (b < W.heap.size)) true 9 _ _ p1:=Below.trod laidOut (by kernel_rfl) (of_decide_eq_true (by kernel_rfl)) h1 hg hlt1
 have h2' : DataW.Trod enc Tryz.prog W' 0 (fun b=>decide (b < W.heap.size)) true 9 _ _ p2:=Below.trod laidOut (by kernel_rfl) (of_decide_eq_true (by kernel_rfl)) h2 hg hlt2
 refine ⟨_,rfl,_,_,_,[],_,[],hW',?_,trodAll_mk3 h0' h1' h2',rfl,hg.frame _,fun h=>by cases h⟩
 exact trodAll_mk1 (shut_bool Tryz.underlying4 _)

def argsW : Array Value:=#[.slice none 0 0,.string ⟨#[]⟩,.string ⟨#[]⟩]
noncomputable def laidWorld (os : Os) : World:=
 { World.holding Tryz.prog os ⟨#[],#[],[]⟩ with heap:=(((World.holding Tryz.prog os ⟨#[],#[],[]⟩).heap.modify 2 (fun
   |.cells _ t frozen=>.cells (accZ.map fun z=>Value.int .u8 z).toArray t frozen
   |o=>o)).modify 1 (fun
   |.cells _ t frozen=>.cells (Go.Pinned.utf8FirstZ.map fun z : Nat=>Value.int .u8 (z : Int)).toArray t frozen
   |o=>o)) }
theorem laid_met (os : Os) : laidMet Tryz.prog Rows.streamBetweenMeansUptoRow.laid ((laidWorld os).forCall (fun _ _=>0) ⟨#[],argsW,[]⟩).memory:=
 laidMet_of_run' 8 (by kernel_rfl) (by kernel_rfl)
theorem reads (os : Os) {H : Type} (enc : TypeId × Value → H) : ∃ places,DataW.whole enc Tryz.prog ((laidWorld os).forCall (fun _ _=>0) ⟨#[],argsW,[]⟩).memory Tryz.f5.params.toList Rows.streamBetweenMeansSpec.vars false argsW.toList 8 = some ([.nil,.lit (.string []),.lit (.string [])],[],places):=
 ⟨[],by kernel_rfl⟩

set_option maxRecDepth 100000 in
theorem lifted (os : Os) (started : os.Started) (H : Type) (enc : TypeId × Value → H) (F : Stop.Interp) :
  ReturnsInHanded {} Tryz.checked os 5 .any ((Rows.OpenSpec.upto Rows.streamBetweenMeansSpec).preRow enc Tryz.prog Tryz.f5 Rows.streamBetweenMeansUptoRow.domain false Rows.streamBetweenMeansUptoRow.laid) (((Rows.OpenSpec.upto Rows.streamBetweenMeansSpec).at F).post enc Tryz.prog Tryz.f5 false true false false):=by
 obtain ⟨places,hx⟩:=reads os enc
 refine returnsInHanded_of_row (C:=Tryz.checked) (s:=Rows.OpenSpec.upto Rows.streamBetweenMeansSpec) own started (by kernel_rfl) Tryz.func5
  (witness_row_at (enc:=enc) (C:=Tryz.checked) false (laidWorld os) argsW rfl (by kernel_rfl) (by kernel_rfl) (by kernel_rfl)
   (OpenSpec.preRow_of_cond 8 hx (by kernel_rfl) (fun k hk=>by cases hk;kernel_rfl) (by kernel_rfl) (laid_met os))) ?_
 intro W base args ds gs before hval hW hcnd hcond hsz hL hsh _
 exact contract H enc W base args ds gs before hval hW hsz (hcond _ rfl) hL hsh

theorem own0 : (Rows.streamBetweenMeansUptoRow.wf (OpenSpec.ofChange (Rows.OpenSpec.upto Rows.streamBetweenMeansSpec).bare)) = true:=by kernel_rfl
theorem own1 : (laidOutB Tryz.pinned.checked.prog) = true:=fact1
theorem own2 : (mapsRowed Tryz.pinned.checked.prog) = true:=fact2
theorem own3 : (Tryz.f5.params.all (Tryz.pinned.checked.prog.readableRec ·)) = true:=by kernel_rfl
theorem own4 : (namedTie Tryz.pinned.checked.prog Rows.streamBetweenMeansUptoRow.named (Rows.OpenSpec.upto Rows.streamBetweenMeansSpec).bare.vars) = true:=by kernel_rfl
theorem own5 : ((Rows.streamBetweenMeansUptoRow.stops == [])) = true:=by kernel_rfl
theorem own6 : ((Tryz.pinned.checked.prog.stops == [])) = true:=fact6
theorem own7 : ((Rows.streamBetweenMeansUptoRow.knobs == [])) = true:=by kernel_rfl
theorem own8 : ((Tryz.pinned.checked.prog.stopKnobs == [])) = true:=fact8
theorem own9 : ((Rows.streamBetweenMeansUptoRow.inPlace == Tryz.pinned.checked.prog.inPlace 5)) = true:=by kernel_rfl
theorem own10 : ((Rows.streamBetweenMeansUptoRow.unfollowed == Tryz.pinned.checked.prog.unfollowed 5)) = true:=by kernel_rfl
theorem own11 : ((Rows.streamBetweenMeansUptoRow.recurses == Tryz.pinned.checked.prog.recurses 5)) = true:=by kernel_rfl
theorem own12 : ((Rows.streamBetweenMeansUptoRow.named == Tryz.pinned.checked.prog.varsNamed 5)) = true:=by kernel_rfl
theorem own13 : ((Rows.streamBetweenMeansUptoRow.maps == (Tryz.f5.params.toList ++ (Rows.OpenSpec.upto Rows.streamBetweenMeansSpec).bare.plain.varTypes Tryz.pinned.checked.prog).any (Tryz.pinned.checked.prog.mapsRec ·))) = true:=by kernel_rfl
theorem own14 : ((Rows.streamBetweenMeansUptoRow.ifaces == (Tryz.f5.params.toList ++ (Rows.OpenSpec.upto Rows.streamBetweenMeansSpec).bare.plain.varTypes Tryz.pinned.checked.prog).any (Tryz.pinned.checked.prog.ifacesRec ·))) = true:=by kernel_rfl
theorem own15 : ((Rows.streamBetweenMeansUptoRow.mapsOut == Tryz.pinned.checked.prog.mapsAmong Tryz.f5.resultTypes.toList)) = true:=by kernel_rfl
theorem own16 : ((Rows.streamBetweenMeansUptoRow.loops == (Tryz.f5.params.toList ++ (Rows.OpenSpec.upto Rows.streamBetweenMeansSpec).bare.plain.varTypes Tryz.pinned.checked.prog).any (Tryz.pinned.checked.prog.loopsFrom ·))) = true:=by kernel_rfl
theorem own17 : ((Rows.streamBetweenMeansUptoRow.wideKeys == (Tryz.f5.params.toList ++ (Rows.OpenSpec.upto Rows.streamBetweenMeansSpec).bare.plain.varTypes Tryz.pinned.checked.prog ++ Tryz.f5.resultTypes.toList).any (Tryz.pinned.checked.prog.wideKeysFrom ·))) = true:=by kernel_rfl
theorem own18 : ((Rows.OpenSpec.upto Rows.streamBetweenMeansSpec).bare.vars.all (Tryz.pinned.checked.prog.varReadable ·)) = true:=by kernel_rfl
theorem own19 : (Tryz.f5.resultTypes.all (fun t=>Tryz.pinned.checked.prog.readableRec t && decide (t < Tryz.pinned.checked.prog.types.size))) = true:=by kernel_rfl
theorem own20 : ((Rows.streamBetweenMeansUptoRow.ifacesOut == Tryz.f5.resultTypes.toList.any (Tryz.pinned.checked.prog.ifacesRec ·))) = true:=by kernel_rfl
theorem own21 : ((Rows.streamBetweenMeansUptoRow.loopsOut == Tryz.f5.resultTypes.toList.any (Tryz.pinned.checked.prog.loopsFrom ·))) = true:=by kernel_rfl
theorem own22 : ((Rows.streamBetweenMeansUptoRow.plainKeys == Tryz.pinned.checked.prog.plainKeys)) = true:=fact22
theorem own23 : (Rows.streamBetweenMeansUptoRow.shortTexts.isNone) = true:=by kernel_rfl
theorem own24 : (Tryz.pinned.checked.prog.stopsHeard) = true:=fact24
theorem own25 : (Tryz.pinned.checked.prog.mayEnter) = true:=fact25
theorem own26 : ((Rows.streamBetweenMeansUptoRow.lifted == Tryz.pinned.checked.prog.liftsFinal)) = true:=fact26
theorem own27 : ((Tryz.pinned.checked.prog.make == some Rows.streamBetweenMeansUptoRow.make)) = true:=fact27
theorem own28 : ((Rows.streamBetweenMeansUptoRow.kinds == (if Rows.streamBetweenMeansUptoRow.domain.isEmpty then [] else Tryz.f5.params.toList.map fun t=>match Tryz.pinned.checked.prog.underlying t with | some (.int k)=>some k | _=>none))) = true:=by kernel_rfl
theorem own29 : ((Rows.streamBetweenMeansUptoRow.pinned == Rows.streamBetweenMeansUptoRow.pinnedBy)) = true:=by kernel_rfl
theorem own30 : ((Rows.streamBetweenMeansUptoRow.veiled == (Tryz.f5.params.toList ++ (Rows.OpenSpec.upto Rows.streamBetweenMeansSpec).bare.plain.varTypes Tryz.pinned.checked.prog ++ Tryz.f5.resultTypes.toList).any (Tryz.pinned.checked.prog.veiledRec ·))) = true:=by kernel_rfl
theorem own31 : (Rows.streamBetweenMeansUptoRow.veiledFits Tryz.pinned.checked.prog Tryz.f5.params.toList (Tryz.f5.params.toList ++ (Rows.OpenSpec.upto Rows.streamBetweenMeansSpec).bare.plain.varTypes Tryz.pinned.checked.prog ++ Tryz.f5.resultTypes.toList)) = true:=by kernel_rfl
theorem closed : joinedFacts Tryz.pinned.checked.prog 5 Tryz.f5 (Rows.OpenSpec.upto Rows.streamBetweenMeansSpec).bare Rows.streamBetweenMeansUptoRow = true:=(fact_and (fact_and (fact_and (fact_and (fact_and (fact_and (fact_and (fact_and (fact_and (fact_and (fact_and (fact_and (fact_and (fact_and (fact_and (fact_and (fact_and (fact_and (fact_and (fact_and (fact_and (fact_and (fact_and (fact_and (fact_and (fact_and (fact_and (fact_and (fact_and (fact_and (fact_and own0 own1) own2) own3) own4) own5) own6) own7) own8) own9) own10) own11) own12) own13) own14) own15) own16) own17) own18) own19) own20) own21) own22) own23) own24) own25) own26) own27) (by kernel_rfl)) own29) own30) own31)
theorem named : Tryz.pinned.checked.prog.funcNamed Rows.streamBetweenMeansUptoRow.func = some 5:=by kernel_rfl
theorem named2 : Tryz.prog.funcNamed "stockyard/stockyardlaw08.StreamBetweenMeans" = some 5 := by kernel_rfl
theorem inst : (Tryz.f5).isInstance Tryz.pinned.checked.prog Rows.streamBetweenMeansUptoRow.origin Rows.streamBetweenMeansUptoRow.targs:=of_decide_eq_true (by kernel_rfl)
theorem wrap : (Tryz.f5).isWrapper Tryz.pinned.checked.prog Rows.streamBetweenMeansUptoRow.wrapper Rows.streamBetweenMeansUptoRow.mainSum:=by unfold Func.isWrapper;first | (rw [if_pos (by decide +kernel)];kernel_rfl) | (rw [if_neg (by decide +kernel)];exact ⟨rfl,rfl⟩)
theorem goes : false = Rows.streamBetweenMeansUptoRow.goesBy Tryz.pinned.checked.prog:=by kernel_rfl
theorem said : Rows.StreamBetweenMeansUptoSaid:=
 OpenClaim.holds_of_cond 5 Tryz.f5 rfl rfl rfl rfl rfl rfl rfl ⟨rfl,rfl,rfl,rfl,rfl⟩ rfl rfl rfl rfl rfl named Tryz.func5 closed
  inst wrap
  (fun os started H enc _ F=>by rw [OpenClaim.pre_eq_preRow];exact lifted os started H enc F)
theorem plain (f : FuncId) (fn : Func) (hf : Tryz.pinned.checked.prog.funcNamed "stockyard/stockyardlaw08.StreamBetweenMeans" = some f) (hfn : Tryz.pinned.checked.prog.funcs[f]? = some fn) :
  false = Tryz.pinned.checked.prog.looks [] ∧ ∀ (j : Nat) t,fn.params[j]? = some t → Tryz.pinned.checked.prog.wantsStandIn t = false:=by
 obtain rfl : f = 5 := Option.some.inj ((show Tryz.prog.funcNamed "stockyard/stockyardlaw08.StreamBetweenMeans" = some 5 from named2).symm.trans hf) |>.symm
 obtain rfl : fn = Tryz.f5:=(Option.some.inj (Tryz.func5.symm.trans hfn)).symm
 refine ⟨factLooks,fun j t ht=>?_⟩
 rw [Tryz.params5] at ht
 have hm:=Array.mem_of_getElem? ht
 simp only [List.mem_toArray,List.mem_cons,List.not_mem_nil,or_false] at hm
 rcases hm with rfl | rfl | rfl
 ·exact (show Tryz.prog.wantsStandIn 22 = false by kernel_rfl)
 ·exact (show Tryz.prog.wantsStandIn 9 = false by kernel_rfl)
 ·exact (show Tryz.prog.wantsStandIn 9 = false by kernel_rfl)
theorem card : Rows.StreamBetweenMeansUptoCardSaid:=
 Claim7.holds_tied_plain_at .later [] _ _ _ _ said (fun _ h=>by cases h) (by kernel_rfl) (fun _ h=>by cases h) streamBetweenMeansUpto_row_tie rfl ⟨rfl,rfl⟩ (by kernel_rfl) rfl plain goes
end Go.Proofs.YtdcdabbepnahnaaGreatDoor.streamBetweenMeansUpto
