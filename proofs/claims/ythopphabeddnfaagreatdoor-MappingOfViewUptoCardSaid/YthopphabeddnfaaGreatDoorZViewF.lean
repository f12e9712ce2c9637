/- Walks: a view's Forward and Decides. -/
import Derived.Test.YthopphabeddnfaaGreatDoorZViewW
import Derived.Test.YthopphabeddnfaaGreatDoorZEntL
set_option linter.unusedVariables false
set_option linter.unusedSimpArgs false
namespace Go.Proofs.YthopphabeddnfaaGreatDoor
open Go Go.RowKit Sy

def vfV (v : List Rule) (s : Str) : Value:=.tuple #[.string (bs ((vfwd v s).getD [])),.bool (vfwd v s).isSome]
def noV : Value:=.tuple #[.string (bs []),.bool false]
theorem vfV_no {v : List Rule} {s : Str} (h : vfwd v s = none) : vfV v s = noV:=by
 rw [vfV,h]
 rfl
theorem vfV_some {v : List Rule} {s t : Str} (h : vfwd v s = some t) : vfV v s = .tuple #[.string (bs t),.bool true]:=by
 rw [vfV,h]
 rfl
theorem fwdV_none {r : Rule} {s : Str} (h : fwd r s = none) : fwdV r s = noV:=by
 rw [fwdV,h]
 rfl
theorem fwdV_some {r : Rule} {s t : Str} (h : fwd r s = some t) : fwdV r s = .tuple #[.string (bs t),.bool true]:=by
 rw [fwdV,h]
 rfl
theorem fwd_v (r : Rule) (a : Pl) (s : Str) (u : Value) (w : World) (hr : RuleU w a r) (hsm : SmallV r) (hs : s.length ≤ 1100000) (hM : MaxL w) (h : fwdV r s = u) :
  Calls Tryz.prog 24 #[.agg #[.bool r.excl,.slice a.AL r.left.parts.length a.cl,.bool r.left.rest,.slice a.AR r.right.parts.length a.cr,.bool r.right.rest],.string (bs s)] w fun e w'=>e = .returned u ∧ Calm w w':=h ▸ fwd_c r a s w hr hsm hs hM
theorem decL_or (v : List Rule) (s : Str) : decL v s = -1 ∨ ∃ (k : Nat) (r : Rule),decL v s = k ∧ v[k]? = some r ∧ k < v.length:=by
 rcases lastIx_cases (fun r=>matchS r.left s) v with ⟨h1,_⟩ | ⟨k,a,h1,h2,_,_⟩
 ·exact .inl h1
 ·exact .inr ⟨k,a,h1,h2,(List.getElem?_eq_some_iff.1 h2).1⟩
theorem vfwd_err {v : List Rule} {s : Str} (h : viewErr v ≠ 0) : vfwd v s = none:=by rw [vfwd,if_neg h]
theorem vfwd_far {v : List Rule} {s : Str} (h : decL v s = -1) : vfwd v s = none:=by
 unfold vfwd
 split
 ·rw [if_neg (by omega)]
 ·rfl
theorem vfwd_at {v : List Rule} {s : Str} {k : Nat} {r : Rule} (h0 : viewErr v = 0) (h : decL v s = k) (hr : v[k]? = some r) : vfwd v s = if r.excl then none else (match fwd r s with
   |some t=>if (k : Int) < decR v t then none else some t
   |none=>none):=by
 rw [vfwd,if_pos h0,if_pos (by omega),h,Int.toNat_natCast,hr]
 rfl

set_option maxHeartbeats 4000000 in
theorem vfwd_c (v : List Rule) (s : Str) (A : Option Addr) (n c : Nat) (w : World) (hs : s.length ≤ 1100000) (hM : MaxL w) (hv : RulesU w A v) (hsm : ∀ r ∈ v,SmallV r) (hn : v.length = n)
  (hT : ∀ (k : Nat) r t,decL v s = k → v[k]? = some r → fwd r s = some t → t.length ≤ 1100000) :
  Calls Tryz.prog 9 #[.slice A n c,.string (bs s)] w fun e w'=>e = .returned (vfV v s) ∧ Calm w w':=by
 have hlen:=hv.len
 rw [hn] at hlen
 by_cases h0 : viewErr v = 0
 ·have hvd:=valid_c v true A n c w hv hsm hn (by simpa using h0)
  have KL : Hid (∀ W x,Calm w W → decL v s = x → Calls Tryz.prog 27 #[.slice A n c,.func (.func 54) #[] #[.pointer (some ⟨W.heap.size,0,none⟩)]] (W.alloc (.cells #[.string (bs s)] 9)) fun e w'=>e = .returned (.int .i64 x) ∧ Calm W w'):=fun W x hW hx=>
   ml_last s v x A n c W hs (hM.calm hW) (hv.calm hW) hsm hn hx
  have KM:=fun (W : World)=>ml_c s W
  rcases decL_or v s with hd | ⟨k,r,hd,hr,hkn⟩
  ·have hE:=Lib.hid (vfV_no (vfwd_far hd))
   have K1 : Hid (∀ W,Calm w W → Calls Tryz.prog 27 #[.slice A n c,.func (.func 54) #[] #[.pointer (some ⟨W.heap.size,0,none⟩)]] (W.alloc (.cells #[.string (bs s)] 9)) fun e w'=>e = .returned (.int .i64 (-1)) ∧ Calm W w'):=fun W hW=>KL.out W (-1) hW hd
   clear hv hsm hM hT hn h0 hd KL
   go_enter Tryz.func9,Tryz.ntmps9
   go_wp2_with (first
    |(go_at_call 26;refine hvd.mono ?_;rintro e w2 ⟨rfl,hc2⟩)
    |(go_at_call 28;refine (KM _).mono ?_;rintro e w3 ⟨rfl,rfl⟩)
    |(go_at_call 27;refine (K1.out w2 hc2).mono ?_;rintro e w3 ⟨rfl,hc3⟩))
   go_ret2
   exact ⟨by rw [hE.out];rfl,hc2.trans hc3⟩
  ·have K1 : Hid (∀ W,Calm w W → Calls Tryz.prog 27 #[.slice A n c,.func (.func 54) #[] #[.pointer (some ⟨W.heap.size,0,none⟩)]] (W.alloc (.cells #[.string (bs s)] 9)) fun e w'=>e = .returned (.int .i64 (k : Nat)) ∧ Calm W w'):=fun W hW=>KL.out W k hW hd
   obtain ⟨b,o,r',a,rfl,hb,hr',hat,hru⟩:=hv.get (k:=k) hkn
   obtain rfl : r = r':=by rw [hr] at hr';exact Option.some.inj hr'
   rw [hn] at hkn
   have hat':=vfwd_at h0 hd hr
   have hsr:=hsm r (List.mem_of_getElem? hr)
   have hT':=hT k r
   have HAt:=Lib.hid (And.intro hb hat)
   have HU:=Lib.hid hru
   have HN:=Lib.hid hn
   have HV:=Lib.hid hv
   have HSm:=Lib.hid hsm
   have HM:=Lib.hid hM
   have hd0 : ((k : Int) < 0) = False:=by simp
   rcases hx : r.excl with _ | _
   ·rcases hf : fwd r s with _ | t
    ·rw [hx,hf] at hat'
     have hE:=Lib.hid (vfV_no (by simpa using hat'))
     have KF : Hid (∀ W,Calm w W → Calls Tryz.prog 24 #[.agg #[.bool false,.slice a.AL r.left.parts.length a.cl,.bool r.left.rest,.slice a.AR r.right.parts.length a.cr,.bool r.right.rest],.string (bs s)] W fun e w'=>e = .returned (.tuple #[.string (bs []),.bool false]) ∧ Calm W w'):=fun W hW=>by
      have:=fwd_v r a s _ W (HU.out.calm hW) hsr hs (HM.out.calm hW) (fwdV_none hf)
      rw [hx] at this
      exact this
     clear hv hsm hM hT hT' hn h0 hd hr hr' hat' hat hru hsr hf KL
     go_enter Tryz.func9,Tryz.ntmps9
     go_wp2_with (first
      |(go_at_call 26;refine hvd.mono ?_;rintro e w2 ⟨rfl,hc2⟩)
      |(go_at_call 28;refine (KM _).mono ?_;rintro e w3 ⟨rfl,rfl⟩)
      |(go_at_call 27;refine (K1.out w2 hc2).mono ?_;rintro e w3 ⟨rfl,hc3⟩;have d:=HAt.out.2.calm (hc2.trans hc3) HAt.out.1;have d0:=d.c0;have d1:=d.c1;have d2:=d.c2;have d3:=d.c3;have d4:=d.c4;rw [hx] at d0)
      |(go_at_call 24;refine (KF.out w3 (hc2.trans hc3)).mono ?_;rintro e w4 ⟨rfl,hc4⟩))
     go_ret2
     exact ⟨by rw [hE.out];rfl,hc2.trans (hc3.trans hc4)⟩
    ·rw [hx,hf] at hat'
     have htl:=hT' t hd hr hf
     have KF : Hid (∀ W,Calm w W → Calls Tryz.prog 24 #[.agg #[.bool false,.slice a.AL r.left.parts.length a.cl,.bool r.left.rest,.slice a.AR r.right.parts.length a.cr,.bool r.right.rest],.string (bs s)] W fun e w'=>e = .returned (.tuple #[.string (bs t),.bool true]) ∧ Calm W w'):=fun W hW=>by
      have:=fwd_v r a s _ W (HU.out.calm hW) hsr hs (HM.out.calm hW) (fwdV_some hf)
      rw [hx] at this
      exact this
     obtain ⟨y,hy⟩ : ∃ y,decR v t = y:=⟨_,rfl⟩
     have K2 : Hid (∀ W,Calm w W → Calls Tryz.prog 27 #[.slice (some ⟨b,o,none⟩) n c,.func (.func 55) #[] #[.pointer (some ⟨W.heap.size,0,none⟩)]] (W.alloc (.cells #[.string (bs t)] 9)) fun e w'=>e = .returned (.int .i64 y) ∧ Calm W w'):=fun W hW=>
      mr_last t v y (some ⟨b,o,none⟩) n c W htl (HM.out.calm hW) (HV.out.calm hW) HSm.out HN.out hy
     have KMr:=fun (W : World)=>mr_c t W
     have hyb:=decR_ge v t
     rw [hy,hn] at hyb
     simp only [Bool.false_eq_true,if_false] at hat'
     rw [hy] at hat'
     by_cases hky : (k : Int) < y
     ·rw [if_pos hky] at hat'
      have hE:=Lib.hid (vfV_no hat')
      clear hv hsm hM hT hT' hn h0 hd hr hr' hat' hat hru hsr hf KL hy htl
      go_enter Tryz.func9,Tryz.ntmps9
      go_wp2_with (first
       |(go_at_call 26;refine hvd.mono ?_;rintro e w2 ⟨rfl,hc2⟩)
       |(go_at_call 28;refine (KM _).mono ?_;rintro e w3 ⟨rfl,rfl⟩)
       |(go_at_call 27;refine (K1.out w2 hc2).mono ?_;rintro e w3 ⟨rfl,hc3⟩;have d:=HAt.out.2.calm (hc2.trans hc3) HAt.out.1;have d0:=d.c0;have d1:=d.c1;have d2:=d.c2;have d3:=d.c3;have d4:=d.c4;rw [hx] at d0)
       |(go_at_call 24;refine (KF.out w3 (hc2.trans hc3)).mono ?_;rintro e w4 ⟨rfl,hc4⟩))
      clear K1
      go_wp2_with (first
       |(go_at_call 29;refine (KMr _).mono ?_;rintro e w5 ⟨rfl,rfl⟩)
       |(go_at_call 27;refine (K2.out w4 (hc2.trans (hc3.trans hc4))).mono ?_;rintro e w5 ⟨rfl,hc5⟩))
      go_ret2
      exact ⟨by rw [hE.out];rfl,hc2.trans (hc3.trans (hc4.trans hc5))⟩
     ·rw [if_neg hky] at hat'
      have hE:=Lib.hid (vfV_some hat')
      clear hv hsm hM hT hT' hn h0 hd hr hr' hat' hat hru hsr hf KL hy htl
      go_enter Tryz.func9,Tryz.ntmps9
      go_wp2_with (first
       |(go_at_call 26;refine hvd.mono ?_;rintro e w2 ⟨rfl,hc2⟩)
       |(go_at_call 28;refine (KM _).mono ?_;rintro e w3 ⟨rfl,rfl⟩)
       |(go_at_call 27;refine (K1.out w2 hc2).mono ?_;rintro e w3 ⟨rfl,hc3⟩;have d:=HAt.out.2.calm (hc2.trans hc3) HAt.out.1;have d0:=d.c0;have d1:=d.c1;have d2:=d.c2;have d3:=d.c3;have d4:=d.c4;rw [hx] at d0)
       |(go_at_call 24;refine (KF.out w3 (hc2.trans hc3)).mono ?_;rintro e w4 ⟨rfl,hc4⟩))
      clear K1
      go_wp2_with (first
       |(go_at_call 29;refine (KMr _).mono ?_;rintro e w5 ⟨rfl,rfl⟩)
       |(go_at_call 27;refine (K2.out w4 (hc2.trans (hc3.trans hc4))).mono ?_;rintro e w5 ⟨rfl,hc5⟩))
      go_ret2
      exact ⟨by rw [hE.out];rfl,hc2.trans (hc3.trans (hc4.trans hc5))⟩
   ·rw [hx] at hat'
    have hE:=Lib.hid (vfV_no (by simpa using hat'))
    clear hv hsm hM hT hT' hn h0 hd hr hr' hat' hat hru hsr KL
    go_enter Tryz.func9,Tryz.ntmps9
    go_wp2_with (first
     |(go_at_call 26;refine hvd.mono ?_;rintro e w2 ⟨rfl,hc2⟩)
     |(go_at_call 28;refine (KM _).mono ?_;rintro e w3 ⟨rfl,rfl⟩)
     |(go_at_call 27;refine (K1.out w2 hc2).mono ?_;rintro e w3 ⟨rfl,hc3⟩;have d:=HAt.out.2.calm (hc2.trans hc3) HAt.out.1;have d0:=d.c0;rw [hx] at d0))
    go_ret2
    exact ⟨by rw [hE.out];rfl,hc2.trans hc3⟩
 ·have hvd:=valid_c v false A n c w hv hsm hn (by simpa using h0)
  have hE:=Lib.hid (vfV_no (vfwd_err (s:=s) h0))
  clear hv hsm hM hT hn h0
  go_enter Tryz.func9,Tryz.ntmps9
  go_wp2_with (go_at_call 26;refine hvd.mono ?_;rintro e w2 ⟨rfl,hc2⟩)
  go_ret2
  exact ⟨by rw [hE.out];rfl,hc2⟩

end Go.Proofs.YthopphabeddnfaaGreatDoor
