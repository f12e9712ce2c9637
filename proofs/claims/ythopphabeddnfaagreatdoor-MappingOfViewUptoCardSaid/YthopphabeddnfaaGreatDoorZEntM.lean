/- Entries in memory; the holes on the way. -/
import Derived.Test.YthopphabeddnfaaGreatDoorZKinds
import Derived.Test.YthopphabeddnfaaGreatDoorZPatsB
import Derived.Test.YthopphabeddnfaaGreatDoorZEntL
set_option linter.unusedVariables false
set_option linter.unusedSimpArgs false
namespace Go.Proofs.YthopphabeddnfaaGreatDoor
open Go Go.RowKit Sy
structure BoxR (w1 : World) (B : Nat) (a : Pl) (r : Rule) (nl nr : Nat) (lr rr ex : Bool) : Prop where
 lt : B < w1.heap.size
 c0 : w1.cell? ⟨B,0,none⟩ = some (.bool ex)
 c1 : w1.cell? ⟨B,1,none⟩ = some (.slice a.AL nl a.cl)
 c2 : w1.cell? ⟨B,2,none⟩ = some (.bool lr)
 c3 : w1.cell? ⟨B,3,none⟩ = some (.slice a.AR nr a.cr)
 c4 : w1.cell? ⟨B,4,none⟩ = some (.bool rr)
theorem BoxR.calm {w1 w2 : World} {B : Nat} {a : Pl} {r : Rule} {nl nr : Nat} {lr rr ex : Bool} (h : BoxR w1 B a r nl nr lr rr ex) (hc : Calm w1 w2) : BoxR w2 B a r nl nr lr rr ex:=
 ⟨Nat.lt_of_lt_of_le h.lt hc.size,hc.at_ h.c0 h.lt,hc.at_ h.c1 h.lt,hc.at_ h.c2 h.lt,hc.at_ h.c3 h.lt,hc.at_ h.c4 h.lt⟩

theorem ruleErr_left {r : Rule} (h : patErr r.left ≠ 0) : ruleErr r = 40:=by rw [ruleErr,if_pos h]
theorem ruleErr_right {r : Rule} (h0 : patErr r.left = 0) (h : patErr r.right ≠ 0) : ruleErr r = 41:=by rw [ruleErr,if_neg (by simpa using h0),if_pos h]
theorem ruleErr_kinds {r : Rule} (h0 : patErr r.left = 0) (h1 : patErr r.right = 0) : ruleErr r = if starN r.left ≠ starN r.right ∨ r.left.rest ≠ r.right.rest then 42 else 0:=by rw [ruleErr,if_neg (by simpa using h0),if_neg (by simpa using h1)]
theorem starN_le (p : Pat) (h : patErr p = 0) : starN p ≤ 12:=by
 have h1:=List.length_filter_le isStar p.parts
 have h2:=patErr_len h
 unfold starN
 omega

set_option maxHeartbeats 2000000 in
theorem rule_c (r : Rule) (a : Pl) (w : World) (hr : RuleU w a r) : Calls Tryz.prog 34 #[ruleV a r] w fun e w'=>e = .returned (.int .i64 (ruleErr r)) ∧ Calm w w':=by
 obtain ⟨nl,hnl⟩ : ∃ nl,r.left.parts.length = nl:=⟨_,rfl⟩
 obtain ⟨nr,hnr⟩ : ∃ nr,r.right.parts.length = nr:=⟨_,rfl⟩
 obtain ⟨lr,hlr⟩ : ∃ lr,r.left.rest = lr:=⟨_,rfl⟩
 obtain ⟨rr,hrr⟩ : ∃ rr,r.right.rest = rr:=⟨_,rfl⟩
 obtain ⟨ex,hex⟩ : ∃ ex,r.excl = ex:=⟨_,rfl⟩
 obtain ⟨w1,hw1⟩ : ∃ w1,w1 = w.alloc (.cells #[.bool ex,.slice a.AL nl a.cl,.bool lr,.slice a.AR nr a.cr,.bool rr] 44):=⟨_,rfl⟩
 have hc1 : Calm w w1:=by rw [hw1];exact (Calm.refl w).alloc _
 have hbox : BoxR w1 w.heap.size a r nl nr lr rr ex:=by rw [hw1];exact ⟨by simp,by simp,by simp,by simp,by simp,by simp⟩
 have hru:=hr.calm hc1
 unfold ruleV
 rw [hnl,hnr,hlr,hrr,hex]
 have HW:=Lib.hid hw1
 have HC:=Lib.hid hc1
 have HN:=Lib.hid (And.intro hnl (And.intro hnr (And.intro hlr hrr)))
 have HB:=Lib.hid hbox
 have HR:=Lib.hid hru
 obtain ⟨vl,hvl⟩ : ∃ vl,patErr r.left = vl:=⟨_,rfl⟩
 obtain ⟨vr,hvr⟩ : ∃ vr,patErr r.right = vr:=⟨_,rfl⟩
 have HVl:=Lib.hid hvl
 have HVr:=Lib.hid hvr
 have b1:=hbox.c1
 have b2:=hbox.c2
 rw [hw1] at b1 b2
 clear hw1 hc1 hbox hr hru hnl hnr hlr hrr hex hvl hvr
 go_enter Tryz.func34,Tryz.ntmps34
 by_cases hl0 : vl = 0
 ·subst hl0
  obtain ⟨sl,hsl⟩ : ∃ sl,starN r.left = sl:=⟨_,rfl⟩
  have hk1 : Calls Tryz.prog 59 #[.agg #[.slice a.AL nl a.cl,.bool lr]] w1 fun e w'=>e = .returned (.tuple #[.int .i64 (sl : Nat),.bool lr,.int .i64 0]) ∧ Calm w1 w':=by
   have:=kinds_c r.left a.AL a.cl w1 HR.out.lr.toG HR.out.lroom HR.out.lcap HVl.out
   rw [hsl,HN.out.1,HN.out.2.2.1] at this
   exact this
  have hsl12:=starN_le r.left HVl.out
  rw [hsl] at hsl12
  have HSl:=Lib.hid hsl
  clear hsl
  go_wp2_with fail
  rw [← HW.out]
  refine hk1.mono ?_
  rintro e w2 ⟨rfl,hc2⟩
  have b3:=(HB.out.calm hc2).c3
  have b4:=(HB.out.calm hc2).c4
  clear b1 b2 hk1
  by_cases hr0 : vr = 0
  ·subst hr0
   obtain ⟨sr,hsr⟩ : ∃ sr,starN r.right = sr:=⟨_,rfl⟩
   have hk2 : Calls Tryz.prog 59 #[.agg #[.slice a.AR nr a.cr,.bool rr]] w2 fun e w'=>e = .returned (.tuple #[.int .i64 (sr : Nat),.bool rr,.int .i64 0]) ∧ Calm w2 w':=by
    have h2:=HR.out.calm hc2
    have:=kinds_c r.right a.AR a.cr w2 h2.rr.toG h2.rroom h2.rcap HVr.out
    rw [hsr,HN.out.2.1,HN.out.2.2.2] at this
    exact this
   have hsr12:=starN_le r.right HVr.out
   rw [hsr] at hsr12
   have hv : Hid (ruleErr r = if sl ≠ sr ∨ lr ≠ rr then 42 else 0):=by
    show ruleErr r = _
    rw [ruleErr_kinds HVl.out HVr.out,HSl.out,hsr,HN.out.2.2.1,HN.out.2.2.2]
   clear hsr
   by_cases hss : sl = sr
   ·obtain rfl : sl = sr:=hss
    have hb1 : ((sl : Int) != (sl : Int)) = false:=by simp
    cases lr
    all_goals cases rr
    all_goals
     go_wp2_with fail
     refine hk2.mono ?_
     rintro e w3 ⟨rfl,hc3⟩
     go_wp2
     go_ret
     exact ⟨ret_int (by rw [hv.out];simp),HC.out.trans (hc2.trans hc3)⟩
   ·have hb1 : ((sl : Int) != (sr : Int)) = true:=by simp;omega
    have hv2 : Hid (ruleErr r = 42):=by
     show ruleErr r = 42
     rw [hv.out,if_pos (.inl hss)]
    clear hv hss
    go_wp2_with fail
    refine hk2.mono ?_
    rintro e w3 ⟨rfl,hc3⟩
    go_wp2
    go_ret
    exact ⟨ret_int (by rw [hv2.out]),HC.out.trans (hc2.trans hc3)⟩
  ·have hk2 : Calls Tryz.prog 59 #[.agg #[.slice a.AR nr a.cr,.bool rr]] w2 fun e w'=>e = .returned (.tuple #[.int .i64 0,.bool false,.int .i64 vr]) ∧ Calm w2 w':=by
    have h2:=HR.out.calm hc2
    have:=kinds_e r.right vr a.AR a.cr w2 h2.rr.toG h2.rroom h2.rcap HVr.out hr0
    rw [HN.out.2.1,HN.out.2.2.2] at this
    exact this
   have hv2 : Hid (ruleErr r = 41):=ruleErr_right HVl.out (by rw [HVr.out];exact hr0)
   have hvb : (vr != 0) = true:=by simpa using hr0
   clear hr0
   go_wp2_with fail
   refine hk2.mono ?_
   rintro e w3 ⟨rfl,hc3⟩
   go_wp2
   go_ret
   exact ⟨ret_int (by rw [hv2.out]),HC.out.trans (hc2.trans hc3)⟩
 ·have hk1 : Calls Tryz.prog 59 #[.agg #[.slice a.AL nl a.cl,.bool lr]] w1 fun e w'=>e = .returned (.tuple #[.int .i64 0,.bool false,.int .i64 vl]) ∧ Calm w1 w':=by
   have:=kinds_e r.left vl a.AL a.cl w1 HR.out.lr.toG HR.out.lroom HR.out.lcap HVl.out hl0
   rw [HN.out.1,HN.out.2.2.1] at this
   exact this
  have hv2 : Hid (ruleErr r = 40):=ruleErr_left (by rw [HVl.out];exact hl0)
  have hvb : (vl != 0) = true:=by simpa using hl0
  clear hl0
  go_wp2_with fail
  rw [← HW.out]
  refine hk1.mono ?_
  rintro e w2 ⟨rfl,hc2⟩
  go_wp2
  go_ret
  exact ⟨ret_int (by rw [hv2.out]),HC.out.trans hc2⟩
end Go.Proofs.YthopphabeddnfaaGreatDoor
set_option linter.unusedVariables false
set_option linter.unusedSimpArgs false
namespace Go.Proofs.YthopphabeddnfaaGreatDoor
open Go Go.RowKit Sy
structure SmallR (r : Rule) : Prop where
 lp : r.left.parts.length ≤ 4194304
 ls : ∀ x ∈ r.left.parts,x.length ≤ 4194304
 rp : r.right.parts.length ≤ 4194304
 rs : ∀ x ∈ r.right.parts,x.length ≤ 4194304
theorem SmallR.turn {r : Rule} (h : SmallR r) : SmallR r.turn:=⟨h.rp,h.rs,h.lp,h.ls⟩
theorem RuleU.left {w : World} {a : Pl} {r : Rule} (h : RuleU w a r) (hs : SmallR r) : StrsR w a.AL r.left.parts:=h.lr.toR hs.lp hs.ls
theorem RuleU.right {w : World} {a : Pl} {r : Rule} (h : RuleU w a r) (hs : SmallR r) : StrsR w a.AR r.right.parts:=h.rr.toR hs.rp hs.rs

end Go.Proofs.YthopphabeddnfaaGreatDoor
set_option linter.unusedVariables false
set_option linter.unusedSimpArgs false
namespace Go.Proofs.YthopphabeddnfaaGreatDoor
open Go Go.RowKit Sy

structure NewE where
 LA : Option Addr
 lc : Nat
 RA : Option Addr
 rc : Nat
 HA : Option Addr
 hc : Nat
 e : Ent
deriving Inhabited
def encE (x : NewE) : List Value:=[.slice x.LA x.e.left.parts.length x.lc,.bool x.e.left.rest,.slice x.RA x.e.right.parts.length x.rc,.bool x.e.right.rest,.slice x.HA x.e.hs.length x.hc]
theorem encE_len (x : NewE) : (encE x).length = 5:=rfl
theorem encE_one (x : NewE) : ∀ u ∈ encE x,u.oneCell' = true:=by simp [encE,Value.oneCell']
theorem info_ent : (Tryz.prog.info? 40).map (fun i=>(i.zero,i.size,i.bytes)) = some (some (.agg #[.slice none 0 0,.bool false,.slice none 0 0,.bool false,.slice none 0 0]),5,88):=by kernel_rfl
structure EntN (w : World) (B : Nat) (x : NewE) : Prop where
 l : SmallN w B ⟨x.LA,x.lc,x.e.left⟩
 r : SmallN w B ⟨x.RA,x.rc,x.e.right⟩
 h : PatsN w B x.HA x.hc x.e.hs
 few : x.e.hs.length ≤ 4194304
theorem EntN.calm {w w' : World} {B : Nat} {x : NewE} (h : EntN w B x) (hc : Calm w w') : EntN w' B x:=⟨h.l.calm hc,h.r.calm hc,h.h.calm hc,h.few⟩
theorem EntN.mono {w : World} {B B' : Nat} {x : NewE} (h : EntN w B x) (hB : B' ≤ B) : EntN w B' x:=⟨h.l.mono hB,h.r.mono hB,h.h.mono hB,h.few⟩
theorem EntN.own {w w' : World} {B : Nat} {x : NewE} (h : EntN w B x) {B0 n K : Nat} {v : Value} {T : TypeId} {xs : List Value} (hT : 37 ≠ T) (hS : 9 ≠ T) (hown : w.ownsRow B0 T K v n xs) (hg : w.grownBy w' v.ownBlock) : EntN w' B x:=
 ⟨h.l.own hS hown hg,h.r.own hS hown hg,h.h.own hT hS hown hg,h.few⟩
structure EntU (w : World) (z : NewE) : Prop where
 l : PatA w z.LA z.lc z.e.left
 r : PatA w z.RA z.rc z.e.right
 h : PatsR w z.HA z.e.hs
 room : z.e.hs.length ≤ z.hc
 cap : z.hc ≤ 9223372036854775807
theorem EntU.calm {w w' : World} {z : NewE} (h : EntU w z) (hc : Calm w w') : EntU w' z:=⟨h.l.calm hc,h.r.calm hc,h.h.calm hc,h.room,h.cap⟩
theorem EntN.u {w : World} {B : Nat} {x : NewE} (h : EntN w B x) : EntU w x:=⟨h.l.a,h.r.a,h.h.reads h.few,h.h.room,h.h.cap⟩
def EntsR (w : World) (A : Option Addr) (es : List Ent) : Prop:=∃ zs : List NewE,zs.map (·.e) = es ∧ ReadX encE 5 w A zs ∧ ∀ z ∈ zs,EntU w z
theorem EntsR.calm {w w' : World} {A : Option Addr} {es : List Ent} (h : EntsR w A es) (hc : Calm w w') : EntsR w' A es:=by
 obtain ⟨zs,h1,h2,h3⟩:=h
 exact ⟨zs,h1,h2.calm hc,fun z hz=>(h3 z hz).calm hc⟩
theorem EntsR.get {w : World} {A : Option Addr} {es : List Ent} (h : EntsR w A es) {k : Nat} (hk : k < es.length) : ∃ (b o : Nat) (z : NewE),A = some ⟨b,o,none⟩ ∧ b < w.heap.size ∧ es[k]? = some z.e ∧
  w.cell? ⟨b,o + k * 5,none⟩ = some (.slice z.LA z.e.left.parts.length z.lc) ∧ w.cell? ⟨b,o + k * 5 + 1,none⟩ = some (.bool z.e.left.rest) ∧ w.cell? ⟨b,o + k * 5 + 2,none⟩ = some (.slice z.RA z.e.right.parts.length z.rc) ∧ w.cell? ⟨b,o + k * 5 + 3,none⟩ = some (.bool z.e.right.rest) ∧ w.cell? ⟨b,o + k * 5 + 4,none⟩ = some (.slice z.HA z.e.hs.length z.hc) ∧ EntU w z:=by
 obtain ⟨zs,rfl,h2,h3⟩:=h
 rw [List.length_map] at hk
 obtain ⟨b,o,hA,hb,hc⟩:=h2 (fun e=>by rw [e] at hk;simp at hk)
 have hz:=List.getElem?_eq_getElem hk
 exact ⟨b,o,zs[k],hA,hb,by rw [List.getElem?_map,hz];rfl,hc k _ hz 0 _ rfl,hc k _ hz 1 _ rfl,hc k _ hz 2 _ rfl,hc k _ hz 3 _ rfl,hc k _ hz 4 _ rfl,h3 _ (List.mem_of_getElem? hz)⟩
theorem read_newE {w : World} {n : Nat} (y : NewE) {l r h : Nat} {lb rb : Bool} (hn : w.heap.size = n) (hl : y.e.left.parts.length = l) (hlb : y.e.left.rest = lb) (hr : y.e.right.parts.length = r) (hrb : y.e.right.rest = rb) (hh : y.e.hs.length = h) : ReadX encE 5 (w.alloc (.cells #[.slice y.LA l y.lc,.bool lb,.slice y.RA r y.rc,.bool rb,.slice y.HA h y.hc] 40)) (some ⟨n,0,none⟩) [y]:=fun _=>by
 refine ⟨n,0,rfl,by rw [← hn];simp [go_sem],fun k x hk i u hu=>?_⟩
 have h0 : k = 0:=by
  have:=(List.getElem?_eq_some_iff.1 hk).1
  simp at this
  exact this
 subst h0
 obtain rfl : y = x:=by simpa using hk
 subst hn hl hlb hr hrb hh
 rw [cell_of_row _ w.heap.size _ _ _ _ (heap_alloc_new w _)]
 simpa [encE] using hu
theorem read_newH {w : World} {n : Nat} (y : NewP) {m : Nat} {r : Bool} (h : w.heap.size = n) (hm : y.p.parts.length = m) (hr : y.p.rest = r) : ReadX encP 2 (w.alloc (.cells #[.slice y.A m y.c,.bool r] 37)) (some ⟨n,0,none⟩) [y]:=fun _=>by
 refine ⟨n,0,rfl,by rw [← h];simp [go_sem],fun k x hk i u hu=>?_⟩
 have h0 : k = 0:=by
  have:=(List.getElem?_eq_some_iff.1 hk).1
  simp at this
  exact this
 subst h0
 obtain rfl : y = x:=by simpa using hk
 subst h hm hr
 rw [cell_of_row _ w.heap.size _ _ _ _ (heap_alloc_new w _)]
 simpa [encP] using hu

/-! ### the holes of one line -/
theorem entHoles_snoc {r q : Rule} : ∀ {ls : List Rule},entHoles r (ls ++ [q]) = match entHoles r ls with
  |none=>none
  |some hs=>if (narR r q.right).2 ≠ 0 then none else some (hs ++ q.left :: ((narR r q.right).1.map (·.left)).toList)
 |[]=>by
  simp only [List.nil_append,entHoles]
  by_cases h : (narR r q.right).2 ≠ 0
  ·rw [if_pos h,if_pos h]
  ·rw [if_neg h,if_neg h]
   simp
 |x :: ls=>by
  have ih:=entHoles_snoc (r:=r) (q:=q) (ls:=ls)
  simp only [List.cons_append,entHoles]
  rw [ih]
  by_cases h : (narR r x.right).2 ≠ 0
  ·rw [if_pos h,if_pos h]
  ·rw [if_neg h,if_neg h]
   rcases entHoles r ls with _ | hs
   ·rfl
   ·simp only [Option.map_some]
    by_cases h2 : (narR r q.right).2 ≠ 0
    ·rw [if_pos h2,if_pos h2]
     rfl
    ·rw [if_neg h2,if_neg h2]
     simp
theorem entHoles_stop {r : Rule} {ls : List Rule} (h : entHoles r ls = none) : ∀ ms : List Rule,entHoles r (ls ++ ms) = none
 |[]=>by rw [List.append_nil];exact h
 |m :: ms=>by
  have h2 : entHoles r (ls ++ [m]) = none:=by rw [entHoles_snoc,h]
  have:=entHoles_stop h2 ms
  rw [List.append_assoc] at this
  exact this
structure HolI (w0 wr : World) (v : Value) (r : Rule) (ls : List Rule) (k : Nat) (ys : List NewP) : Prop where
 own : OwnX encP 2 37 w0 wr v ys
 is : entHoles r (ls.take k) = some (ys.map (·.p))
 each : ∀ y ∈ ys,PatA w0 y.A y.c y.p ∨ SmallN wr w0.heap.size y
theorem HolI.nil {w0 : World} (r : Rule) (ls : List Rule) : HolI w0 w0 (.slice none 0 0) r ls 0 []:=⟨OwnX.nil (Calm.refl _),rfl,fun y hy=>by cases hy⟩
theorem take_snoc {α : Type} {ls : List α} {k : Nat} {q : α} (hq : ls[k]? = some q) : ls.take (k + 1) = ls.take k ++ [q]:=by
 rw [List.take_add_one,hq]
 rfl
theorem HolI.len {w0 wr : World} {v : Value} {r : Rule} {ls : List Rule} {k : Nat} {ys : List NewP} (h : HolI w0 wr v r ls k ys) (hg : ∀ q ∈ ls,ruleErr q = 0) (hr : True) : ys.length ≤ 2 * k:=by
 have:=(entHoles_good (fun q hq=>hg q (List.mem_of_mem_take hq)) h.is).2
 rw [List.length_map,List.length_take] at this
 omega
theorem HolI.stop {w0 wr : World} {v : Value} {r q : Rule} {ls : List Rule} {k : Nat} {ys : List NewP} (h : HolI w0 wr v r ls k ys) (hq : ls[k]? = some q) (hx : (narR r q.right).2 ≠ 0) : entHoles r ls = none:=by
 have h1 : entHoles r (ls.take (k + 1)) = none:=by
  rw [take_snoc hq,entHoles_snoc,h.is]
  simp only
  rw [if_pos hx]
 have:=entHoles_stop h1 (ls.drop (k + 1))
 rw [List.take_append_drop] at this
 exact this
theorem HolI.skip {w0 wr w2 w3 : World} {v v2 : Value} {r q : Rule} {ls : List Rule} {k : Nat} {ys : List NewP} {x : NewP} (h : HolI w0 wr v r ls k ys) (hq : ls[k]? = some q) (hx : (narR r q.right).2 = 0) (hn : (narR r q.right).1 = none) (hxp : x.p = q.left) (hxe : PatA w0 x.A x.c x.p) (hc : Calm wr w2) (hg : w2.grownBy w3 v.ownBlock) (hown : OwnX encP 2 37 w0 w3 v2 (ys ++ [x])) :
  HolI w0 w3 v2 r ls (k + 1) (ys ++ [x]):=by
 refine ⟨hown,?_,fun y hy=>?_⟩
 ·rw [take_snoc hq,entHoles_snoc,h.is]
  simp only
  rw [if_neg (by simpa using hx),hn,List.map_append]
  simp [hxp]
 ·rcases List.mem_append.1 hy with hy | hy
  ·rcases h.each y hy with h1 | h1
   ·exact .inl h1
   ·exact .inr ((h1.calm hc).own (by decide) (h.own.to hc).own hg)
  ·rw [List.mem_singleton] at hy
   subst hy
   exact .inl hxe
theorem HolI.hit {w0 wr w2 w3 w4 w5 : World} {v v2 v3 : Value} {r q n : Rule} {ls : List Rule} {k : Nat} {ys : List NewP} {x z : NewP} (h : HolI w0 wr v r ls k ys) (hq : ls[k]? = some q) (hx : (narR r q.right).2 = 0) (hn : (narR r q.right).1 = some n) (hxp : x.p = q.left) (hxe : PatA w0 x.A x.c x.p) (hc : Calm wr w2) (hg : w2.grownBy w3 v.ownBlock) (hown : OwnX encP 2 37 w0 w3 v2 (ys ++ [x]))
  (hzp : z.p = n.left) (hc2 : Calm w3 w4) (hz : SmallN w4 w0.heap.size z) (hg2 : w4.grownBy w5 v2.ownBlock) (hown2 : OwnX encP 2 37 w0 w5 v3 ((ys ++ [x]) ++ [z])) :
  HolI w0 w5 v3 r ls (k + 1) ((ys ++ [x]) ++ [z]):=by
 refine ⟨hown2,?_,fun y hy=>?_⟩
 ·rw [take_snoc hq,entHoles_snoc,h.is]
  simp only
  rw [if_neg (by simpa using hx),hn,List.map_append,List.map_append]
  simp [hxp,hzp]
 ·rcases List.mem_append.1 hy with hy | hy
  ·rcases List.mem_append.1 hy with hy | hy
   ·rcases h.each y hy with h1 | h1
    ·exact .inl h1
    ·exact .inr (((((h1.calm hc).own (by decide) (h.own.to hc).own hg)).calm hc2).own (by decide) (hown.to hc2).own hg2)
   ·rw [List.mem_singleton] at hy
    subst hy
    exact .inl hxe
  ·rw [List.mem_singleton] at hy
   subst hy
   exact .inr (hz.own (by decide) (hown.to hc2).own hg2)
theorem HolI.reads {w0 wr : World} {v : Value} {r : Rule} {ls : List Rule} {k : Nat} {ys : List NewP} (h : HolI w0 wr v r ls k ys) (hl : ys.length ≤ 4194304) : ∃ A c,v = .slice A ys.length c ∧ PatsR wr A (ys.map (·.p)):=by
 obtain ⟨A,c,e,_,_,h3⟩:=h.own.places (fun y hy=>by
  rcases h.each y hy with h1 | h1
  ·exact h1.calm h.own.calm
  ·exact h1.a)
 exact ⟨A,c,e,h3.reads hl⟩
end Go.Proofs.YthopphabeddnfaaGreatDoor
