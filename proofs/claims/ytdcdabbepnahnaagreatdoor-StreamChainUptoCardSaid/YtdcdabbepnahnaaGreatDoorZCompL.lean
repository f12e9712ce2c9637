/- Compose: what its loops have collected, step by step; the sizes of what it makes. -/
import Derived.Test.YtdcdabbepnahnaaGreatDoorZOutM
import Derived.Test.YtdcdabbepnahnaaGreatDoorZRightW
import Derived.Test.YtdcdabbepnahnaaGreatDoorZMapO
set_option linter.unusedVariables false
set_option linter.unusedSimpArgs false
namespace Go.Proofs.YtdcdabbepnahnaaGreatDoor
open Go Go.RowKit Sy

end Go.Proofs.YtdcdabbepnahnaaGreatDoor
set_option linter.unusedVariables false
set_option linter.unusedSimpArgs false
namespace Go.Proofs.YtdcdabbepnahnaaGreatDoor
open Go Go.RowKit Sy

theorem comL_app : ∀ (m ms : List (Ent × Ent)),comL (m ++ ms) = match comL m with
  |none=>none
  |some l=>(comL ms).map (l ++ ·)
 |[],ms=>by
  simp only [List.nil_append,comL]
  simp
 |p :: m,ms=>by
  have ih:=comL_app m ms
  simp only [List.cons_append,comL]
  rcases comOf p.1 p.2 with _ | o
  ·rfl
  ·simp only
   rw [ih]
   rcases comL m with _ | l
   ·rfl
   ·simp only [Option.map_some]
    rcases comL ms with _ | l'
    ·rfl
    ·simp
theorem comL_one (p : Ent × Ent) : comL [p] = (comOf p.1 p.2).map Option.toList:=by
 simp only [comL]
 rcases comOf p.1 p.2 with _ | o
 ·rfl
 ·simp
theorem comL_stop {pre post : List (Ent × Ent)} {p : Ent × Ent} (h : comOf p.1 p.2 = none) : comL (pre ++ [p] ++ post) = none:=by
 have h1 : comL (pre ++ [p]) = none:=by
  rw [comL_app,comL_one,h]
  rcases comL pre with _ | l <;> rfl
 rw [comL_app,h1]
theorem comL_step {pre : List (Ent × Ent)} {out : List Ent} {p : Ent × Ent} {o : Option Ent} (h : comL pre = some out) (hp : comOf p.1 p.2 = some o) : comL (pre ++ [p]) = some (out ++ o.toList):=by
 rw [comL_app,h,comL_one,hp]
 rfl
theorem comOf_bad {x y : Ent} (h : (chainE x.rule y.rule).2 ≠ 0) : comOf x y = none:=by rw [comOf,if_pos h]
theorem comOf_miss {x y : Ent} (h : (chainE x.rule y.rule).2 = 0) (h1 : (chainE x.rule y.rule).1 = none) : comOf x y = some none:=by rw [comOf,if_neg (by simpa using h),h1]
theorem comOf_far {x y : Ent} {c : Rule} (h : (chainE x.rule y.rule).2 = 0) (h1 : (chainE x.rule y.rule).1 = some c) (h2 : backHs x.rule y.hs = none) : comOf x y = none:=by
 rw [comOf,if_neg (by simpa using h),h1]
 simp only
 rw [h2]
theorem comOf_put {x y : Ent} {c : Rule} {hs : List Pat} (h : (chainE x.rule y.rule).2 = 0) (h1 : (chainE x.rule y.rule).1 = some c) (h2 : backHs x.rule y.hs = some hs) : comOf x y = putH c (x.hs ++ hs):=by
 rw [comOf,if_neg (by simpa using h),h1]
 simp only
 rw [h2]
theorem backHs_app {r : Rule} : ∀ (m ms : List Pat),backHs r (m ++ ms) = match backHs r m with
  |none=>none
  |some l=>(backHs r ms).map (l ++ ·)
 |[],ms=>by
  simp only [List.nil_append,backHs]
  simp
 |p :: m,ms=>by
  have ih:=backHs_app (r:=r) m ms
  simp only [List.cons_append,backHs]
  by_cases h : (narR r p).2 ≠ 0
  ·rw [if_pos h,if_pos h]
  ·rw [if_neg h,if_neg h,ih]
   rcases backHs r m with _ | l
   ·rfl
   ·simp only [Option.map_some]
    rcases backHs r ms with _ | l'
    ·rfl
    ·simp
theorem backHs_snoc {r : Rule} {hs : List Pat} {p : Pat} : backHs r (hs ++ [p]) = match backHs r hs with
  |none=>none
  |some l=>if (narR r p).2 ≠ 0 then none else some (l ++ ((narR r p).1.map (·.left)).toList):=by
 rw [backHs_app]
 rcases backHs r hs with _ | l
 ·rfl
 ·simp only [backHs]
  by_cases h : (narR r p).2 ≠ 0
  ·rw [if_pos h,if_pos h]
   rfl
  ·rw [if_neg h,if_neg h]
   simp
theorem backHs_none {r : Rule} {m : List Pat} (h : backHs r m = none) (ms : List Pat) : backHs r (m ++ ms) = none:=by
 rw [backHs_app,h]
structure BackJ (w0 wr : World) (r : Rule) (hs : List Pat) (k : Nat) (lx ys : List NewP) (v : Value) : Prop where
 own : OwnX encP 2 51 w0 wr v (lx ++ ys)
 is : backHs r (hs.take k) = some (ys.map (·.p))
 each : ∀ y ∈ ys,SmallN wr w0.heap.size y
theorem BackJ.stop {w0 wr : World} {r : Rule} {hs : List Pat} {k : Nat} {lx ys : List NewP} {v : Value} (h : BackJ w0 wr r hs k lx ys v) {p : Pat} (hp : hs[k]? = some p) (hx : (narR r p).2 ≠ 0) : backHs r hs = none:=by
 have h1 : backHs r (hs.take (k + 1)) = none:=by
  rw [take_snoc hp,backHs_snoc,h.is]
  simp only
  rw [if_pos hx]
 have:=backHs_none h1 (hs.drop (k + 1))
 rw [List.take_append_drop] at this
 exact this
theorem BackJ.miss {w0 wr w2 : World} {r : Rule} {hs : List Pat} {k : Nat} {lx ys : List NewP} {v : Value} (h : BackJ w0 wr r hs k lx ys v) {p : Pat} (hp : hs[k]? = some p) (hx : (narR r p).2 = 0) (hn : (narR r p).1 = none) (hc : Calm wr w2) : BackJ w0 w2 r hs (k + 1) lx ys v:=by
 refine ⟨h.own.to hc,?_,fun y hy=>(h.each y hy).calm hc⟩
 rw [take_snoc hp,backHs_snoc,h.is]
 simp only
 rw [if_neg (by simpa using hx),hn]
 simp
theorem BackJ.hit {w0 wr w2 w3 : World} {r n : Rule} {hs : List Pat} {k : Nat} {lx ys : List NewP} {v v2 : Value} {x : NewP} (h : BackJ w0 wr r hs k lx ys v) {p : Pat} (hp : hs[k]? = some p) (hx : (narR r p).2 = 0) (hn : (narR r p).1 = some n) (hxp : x.p = n.left) (hc : Calm wr w2) (hxs : SmallN w2 w0.heap.size x) (hg : w2.grownBy w3 v.ownBlock) (hown : OwnX encP 2 51 w0 w3 v2 ((lx ++ ys) ++ [x])) : BackJ w0 w3 r hs (k + 1) lx (ys ++ [x]) v2:=by
 refine ⟨by rw [← List.append_assoc];exact hown,?_,fun y hy=>?_⟩
 ·rw [take_snoc hp,backHs_snoc,h.is]
  simp only
  rw [if_neg (by simpa using hx),hn,List.map_append]
  simp [hxp]
 ·rcases List.mem_append.1 hy with hy | hy
  ·exact ((h.each y hy).calm hc).own (by decide) (h.own.to hc).own hg
  ·rw [List.mem_singleton] at hy
   subst hy
   exact hxs.own (by decide) (h.own.to hc).own hg
theorem BackJ.to {w0 wr w2 : World} {r : Rule} {hs : List Pat} {k : Nat} {lx ys : List NewP} {v : Value} (h : BackJ w0 wr r hs k lx ys v) (hc : Calm wr w2) : BackJ w0 w2 r hs k lx ys v:=⟨h.own.to hc,h.is,fun y hy=>(h.each y hy).calm hc⟩
theorem backHs_len {r : Rule} (hr : ruleErr r = 0) {hs ks : List Pat} (h : backHs r hs = some ks) : (∀ p ∈ ks,patErr p = 0) ∧ ks.length ≤ hs.length:=by
 rw [backHs_eq hr] at h
 exact rightHs_good h
theorem BackJ.len {w0 wr : World} {r : Rule} {hs : List Pat} {k : Nat} {lx ys : List NewP} {v : Value} (h : BackJ w0 wr r hs k lx ys v) (hr : ruleErr r = 0) (hk : k ≤ hs.length) : ys.length ≤ k:=by
 have:=(backHs_len hr h.is).2
 rw [List.length_map,List.length_take] at this
 omega
theorem BackJ.all {w0 wr : World} {r : Rule} {hs : List Pat} {k : Nat} {lx ys : List NewP} {v : Value} (h : BackJ w0 wr r hs k lx ys v) (hk : hs.length ≤ k) : backHs r hs = some (ys.map (·.p)):=by
 have:=h.is
 rw [List.take_of_length_le hk] at this
 exact this

/-! ### Sizes -/
theorem chain_size {x y c : Rule} {K : Nat} (h : (chainE x y).1 = some c) (hK : 1 ≤ K) (hxl : ∀ s ∈ x.left.parts,s.length ≤ K) (hxr : ∀ s ∈ x.right.parts,s.length ≤ K) (hyl : ∀ s ∈ y.left.parts,s.length ≤ K) (hyr : ∀ s ∈ y.right.parts,s.length ≤ K) : (∀ s ∈ c.left.parts,s.length ≤ K + K) ∧ (∀ s ∈ c.right.parts,s.length ≤ K + K) ∧ c.excl = false:=by
 unfold chainE at h
 by_cases hx : ruleErr x ≠ 0
 ·rw [if_pos hx] at h;cases h
 ·rw [if_neg hx] at h
  by_cases hy : ruleErr y ≠ 0
  ·rw [if_pos hy] at h;cases h
  ·rw [if_neg hy] at h
   have tx : Sy.Twin x.left x.right:=ruleErr_twin.1 (by simpa using hx)
   have ty : Sy.Twin y.left y.right:=ruleErr_twin.1 (by simpa using hy)
   rcases hm : meetP x.right y.left with _ | m
   ·rw [hm] at h;cases h
   ·rw [hm] at h
    simp only at h
    split at h
    ·cases h
    ·obtain rfl:=Option.some.inj h
     obtain ⟨g1,g2,g3,g4⟩:=meetP_some hm
     have hin:=meetL_in (allOk_of g1) (allOk_of g2) g3
     have hmm:=meet_each hm hxr hyl hK
     exact ⟨carry_each ⟨tx.turn,g4,hin.1⟩ hxl hmm,carry_each ⟨ty,g4,hin.2⟩ hyr hmm,rfl⟩
theorem chain_good {x y : Ent} {c : Rule} (h : (chainE x.rule y.rule).1 = some c) : ruleErr c = 0:=by
 have hx : ruleErr x.rule = 0:=by
  unfold chainE at h
  by_cases hx : ruleErr x.rule ≠ 0
  ·rw [if_pos hx] at h;cases h
  ·simpa using hx
 have hy : ruleErr y.rule = 0:=by
  unfold chainE at h
  rw [if_neg (by simpa using hx)] at h
  by_cases hy : ruleErr y.rule ≠ 0
  ·rw [if_pos hy] at h;cases h
  ·simpa using hy
 exact (chain_some hx hy h).1
theorem narR_size {r n : Rule} {q : Pat} {L : Nat} (h : (narR r q).1 = some n) (hL : 1 ≤ L) (hl : ∀ x ∈ r.left.parts,x.length ≤ L) (hr : ∀ x ∈ r.right.parts,x.length ≤ L) (hq : ∀ x ∈ q.parts,x.length ≤ L) : ∀ x ∈ n.left.parts,x.length ≤ L + L:=by
 unfold narR at h
 by_cases h0 : ruleErr r ≠ 0
 ·rw [if_pos h0] at h
  cases h
 ·rw [if_neg h0] at h
  simp only at h
  rcases hn : (narL ⟨false,r.right,r.left⟩ q).1 with _ | m
  ·rw [hn] at h;cases h
  ·rw [hn] at h
   obtain rfl:=Option.some.inj h
   obtain ⟨_,_,_,p,hp,rfl,h1,h2⟩:=narL_some hn
   exact carry_each h2 hl (meet_each hp hr hq hL)
theorem back_size {r : Rule} {K : Nat} (hK : 1 ≤ K) (hl : ∀ s ∈ r.left.parts,s.length ≤ K) (hr : ∀ s ∈ r.right.parts,s.length ≤ K) : ∀ {hs ks : List Pat},backHs r hs = some ks → (∀ p ∈ hs,∀ s ∈ p.parts,s.length ≤ K) → ∀ p ∈ ks,∀ s ∈ p.parts,s.length ≤ K + K
 |[],ks,h,_,p,hp,s,hs=>by
  obtain rfl:=Option.some.inj h
  cases hp
 |q :: hs,ks,h,hh,p,hp,s,hs2=>by
  unfold backHs at h
  by_cases h0 : (narR r q).2 ≠ 0
  ·rw [if_pos h0] at h;cases h
  ·rw [if_neg h0] at h
   obtain ⟨l,hl2,rfl⟩:=Option.map_eq_some_iff.1 h
   rcases List.mem_append.1 hp with hp | hp
   ·rcases hn : (narR r q).1 with _ | n
    ·rw [hn] at hp;cases hp
    ·rw [hn] at hp
     obtain rfl : p = n.left:=by simpa using hp
     exact narR_size hn hK hl hr (hh q (by simp)) s hs2
   ·exact back_size hK hl hr hl2 (fun p hp=>hh p (by simp [hp])) p hp s hs2
theorem com_size {a b : List Ent} {K : Nat} (hK : 1 ≤ K) (ha : ∀ x ∈ a,SizeE K x) (hb : ∀ x ∈ b,SizeE K x) (hma : Mapping a) (hmb : Mapping b) {es : List Ent} (h : comL (pairsL a b) = some es) : ∀ x ∈ es,SizeE (K + K) x:=fun c hc=>by
 obtain ⟨_,h2⟩:=comL_mem h
 rw [h2] at hc
 obtain ⟨⟨x,y⟩,hp,hf⟩:=List.mem_filterMap.1 hc
 obtain ⟨hx,hy⟩:=pairs_mem hp
 obtain ⟨hcom,hg,r,hs,hr,hbk,rfl⟩:=comF_com (hma.good x hx) (hmb.good y hy) hf
 have sx:=ha x hx
 have sy:=hb y hy
 obtain ⟨s1,s2,_⟩:=chain_size hr hK sx.ls sx.rs sy.ls sy.rs
 have tw : Sy.Twin r.left r.right:=ruleErr_twin.1 hcom.good
 have hl:=(patErr_iff.1 tw.lp).2.2.1
 have hr2:=(patErr_iff.1 tw.rp).2.2.1
 refine ⟨by show r.left.parts.length ≤ _;omega,s1,by show r.right.parts.length ≤ _;omega,s2,fun p hp=>⟨?_,?_⟩⟩
 ·have:=(patErr_iff.1 (hcom.holes p hp)).2.2.1
  omega
 ·obtain ⟨q,hqm,hm⟩:=meetsL_mem.1 (redL_mem.1 hp).1
  refine meet_each hm s1 (fun s hs'=>?_) (by omega)
  rcases List.mem_append.1 hqm with hq | hq
  ·exact Nat.le_trans ((sx.h q hq).2 s hs') (by omega)
  ·exact back_size hK sx.ls sx.rs hbk (fun p hp=>(sy.h p hp).2) q hq s hs'
end Go.Proofs.YtdcdabbepnahnaaGreatDoor
