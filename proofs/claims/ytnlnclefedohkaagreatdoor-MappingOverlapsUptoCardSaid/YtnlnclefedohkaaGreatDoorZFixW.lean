/- Walk: rule.fix. -/
import Derived.Shelf.Spec.TrailingZeros
import Derived.Test.YtnlnclefedohkaaGreatDoorProg
import Derived.Laws.BitsAllLaws
import Derived.Laws.Bits64b
import Derived.Test.YtnlnclefedohkaaGreatDoorZChainW
import Derived.Test.YtnlnclefedohkaaGreatDoorZMapL
import Derived.Test.YtnlnclefedohkaaGreatDoorZMapG
import Derived.Test.YtnlnclefedohkaaGreatDoorZWalkD
import Derived.Test.YtnlnclefedohkaaGreatDoorZWalkI
import Derived.Test.YtnlnclefedohkaaGreatDoorZWalkK
import Derived.Test.YtnlnclefedohkaaGreatDoorZCopyP
import Derived.Test.YtnlnclefedohkaaGreatDoorZMeetW
import Derived.Test.YtnlnclefedohkaaGreatDoorZNarW
set_option linter.unusedVariables false
set_option linter.unusedSimpArgs false
namespace Go.Proofs.YtnlnclefedohkaaGreatDoor.Sy


end Go.Proofs.YtnlnclefedohkaaGreatDoor.Sy
set_option linter.unusedVariables false
set_option linter.unusedSimpArgs false
namespace Go.Proofs.YtnlnclefedohkaaGreatDoor.Sy

theorem drop_at {xs : List Str} {i : Nat} {x : Str} (h : xs[i]? = some x) : xs.drop i = x :: xs.drop (i + 1):=by
 obtain ⟨hi,rfl⟩:=List.getElem?_eq_some_iff.1 h
 exact List.drop_eq_getElem_cons hi
theorem take_at {xs : List Str} {i : Nat} {x : Str} (h : xs[i]? = some x) : xs.take (i + 1) = xs.take i ++ [x]:=by
 rw [List.take_add_one,h]
 rfl
theorem fix_go {xs : List Str} {i j : Nat} {c x : Str} (h : xs[i]? = some x) (hx : isStar x = false) : fixR (xs.drop i) j c = x :: fixR (xs.drop (i + 1)) j c:=by
 rw [drop_at h]
 cases j <;> simp [fixR,hx]
theorem fix_pass {xs : List Str} {i j : Nat} {c x : Str} (h : xs[i]? = some x) (hx : isStar x = true) : fixR (xs.drop i) (j + 1) c = x :: fixR (xs.drop (i + 1)) j c:=by
 rw [drop_at h]
 simp [fixR,hx]
def FixAt (xs : List Str) (k : Nat) (c : Str) (i j : Nat) : Prop:=fixR xs k c = xs.take i ++ fixR (xs.drop i) j c
theorem FixAt.start (xs : List Str) (k : Nat) (c : Str) : FixAt xs k c 0 k:=by
 unfold FixAt
 rw [List.take_zero,List.drop_zero,List.nil_append]
theorem FixAt.go {xs : List Str} {k : Nat} {c : Str} {i j : Nat} {x : Str} (h : FixAt xs k c i j) (hi : xs[i]? = some x) (hx : isStar x = false) : FixAt xs k c (i + 1) j:=by
 unfold FixAt at h ⊢
 rw [h,fix_go hi hx,take_at hi,List.append_assoc]
 rfl
theorem FixAt.pass {xs : List Str} {k : Nat} {c : Str} {i j : Nat} {x : Str} (h : FixAt xs k c i (j + 1)) (hi : xs[i]? = some x) (hx : isStar x = true) : FixAt xs k c (i + 1) j:=by
 unfold FixAt at h ⊢
 rw [h,fix_pass hi hx,take_at hi,List.append_assoc]
 rfl
theorem FixAt.hit {xs : List Str} {k : Nat} {c : Str} {i : Nat} {x : Str} (h : FixAt xs k c i 0) (hi : xs[i]? = some x) (hx : isStar x = true) : fixR xs k c = xs.set i (c ++ x.tail):=by
 unfold FixAt at h
 obtain ⟨hl,e⟩:=List.getElem?_eq_some_iff.1 hi
 rw [h,drop_at hi]
 have e2 : fixR (x :: xs.drop (i + 1)) 0 c = (c ++ x.tail) :: xs.drop (i + 1):=by simp [fixR,hx]
 rw [e2,List.set_eq_take_append_cons_drop,if_pos hl]
theorem FixAt.done {xs : List Str} {k : Nat} {c : Str} {i j : Nat} (h : FixAt xs k c i j) (hi : xs.length ≤ i) : fixR xs k c = xs:=by
 unfold FixAt at h
 rw [h,List.drop_of_length_le hi,List.take_of_length_le hi]
 cases j <;> simp [fixR]
def DifAt (xs ys : List Str) (i st : Nat) : Prop:=diffR xs ys 0 = diffR (xs.drop i) (ys.drop i) st
theorem DifAt.start (xs ys : List Str) : DifAt xs ys 0 0:=by
 unfold DifAt
 rw [List.drop_zero,List.drop_zero]
theorem DifAt.go {xs ys : List Str} {i st : Nat} {x : Str} (h : DifAt xs ys i st) (hx : xs[i]? = some x) (hy : ys[i]? = some x) : DifAt xs ys (i + 1) (if isStar x then st + 1 else st):=by
 unfold DifAt at h ⊢
 rw [h,drop_at hx,drop_at hy]
 simp only [diffR,if_true]
theorem DifAt.hit {xs ys : List Str} {i st : Nat} {x y : Str} (h : DifAt xs ys i st) (hx : xs[i]? = some x) (hy : ys[i]? = some y) (hne : x ≠ y) : diffR xs ys 0 = some (st,x,y):=by
 unfold DifAt at h
 rw [h,drop_at hx,drop_at hy]
 simp only [diffR,if_neg hne]
theorem DifAt.done {xs ys : List Str} {i st : Nat} (h : DifAt xs ys i st) (hi : xs.length ≤ i) : diffR xs ys 0 = none:=by
 unfold DifAt at h
 rw [h,List.drop_of_length_le hi]
 cases ys.drop i <;> rfl
theorem eq_step {n : Nat} {m x y : Pat} {k : Nat} {s t c : Str} (hx : Twin m x) (hy : Twin m y) (hlen : x.parts.length = y.parts.length) (hn : starN m < n + 1) (hd : diffR x.parts y.parts 0 = some (k,s,t)) (hdet : detP s t = some c) :
  comp c = true ∧ (Twin (fixP m k c) (fixP x k c) ∧ Twin (fixP m k c) (fixP y k c)) ∧ starN (fixP m k c) < n:=by
 obtain ⟨hsx,hty,_⟩:=diffR_mem hd
 have hcc : comp c = true:=detP_comp (allOk_of hx.rp s hsx) (allOk_of hy.rp t hty) hdet
 have hk : k < (x.parts.filter isStar).length:=by
  have:=diffR_star hd hdet (hx.sn.symm.trans hy.sn)
  omega
 have ix:=inner_fix (k:=k) hx hcc
 have iy:=inner_fix (k:=k) hy hcc
 have cx:=carry_fix (k:=k) hx hcc
 have cy:=carry_fix (k:=k) hy hcc
 have hxl : (fixP x k c).parts.length = x.parts.length:=fixR_len _ _ _
 have hyl : (fixP y k c).parts.length = y.parts.length:=fixR_len _ _ _
 have hx12 : x.parts.length ≤ 12:=(patErr_iff.1 hx.rp).2.2.1
 have tx : Twin (fixP m k c) (fixP x k c):=by
  rw [← cx]
  exact ix.twin (by rw [cx];omega)
 have ty : Twin (fixP m k c) (fixP y k c):=by
  rw [← cy]
  exact iy.twin (by rw [cy];omega)
 refine ⟨hcc,⟨tx,ty⟩,?_⟩
 have h1 : starN (fixP m k c) + 1 = starN m:=fixR_stars hcc (by rw [show (m.parts.filter isStar).length = (x.parts.filter isStar).length from hx.sn];exact hk)
 omega
theorem eqP_same {n : Nat} {m x y : Pat} (h : diffR x.parts y.parts 0 = none) : eqP (n + 1) m x y = some m:=by
 rw [eqP,h]
theorem eqP_no {n : Nat} {m x y : Pat} {k : Nat} {s t : Str} (h : diffR x.parts y.parts 0 = some (k,s,t)) (h2 : detP s t = none) : eqP (n + 1) m x y = none:=by
 rw [eqP,h]
 simp only
 rw [h2]
theorem eqP_go {n : Nat} {m x y : Pat} {k : Nat} {s t c : Str} (h : diffR x.parts y.parts 0 = some (k,s,t)) (h2 : detP s t = some c) : eqP (n + 1) m x y = eqP n (fixP m k c) (fixP x k c) (fixP y k c):=by
 rw [eqP,h]
 simp only
 rw [h2]
structure SzP (L L0 : Nat) (p : Pat) : Prop where
 each : ∀ s ∈ p.parts,s.length ≤ L
 star : ∀ s ∈ p.parts,isStar s = true → s.length ≤ L0
theorem fixR_mem : ∀ {xs : List Str} {k : Nat} {c z : Str},z ∈ fixR xs k c → z ∈ xs ∨ ∃ x ∈ xs,isStar x = true ∧ z = c ++ x.tail
 |[],k,c,z,h=>by cases k <;> cases h
 |x :: xs,k,c,z,h=>by
  rcases hs : isStar x with _ | _
  ·have ih:=fixR_mem (xs:=xs) (k:=k) (c:=c) (z:=z)
   have h' : z = x ∨ z ∈ fixR xs k c:=by cases k <;> simpa [fixR,hs] using h
   rcases h' with rfl | h'
   ·exact .inl List.mem_cons_self
   ·rcases ih h' with h1 | ⟨y,h1,h2⟩
    ·exact .inl (List.mem_cons_of_mem _ h1)
    ·exact .inr ⟨y,List.mem_cons_of_mem _ h1,h2⟩
  ·cases k with
   |zero=>
    simp only [fixR,hs,if_true,List.mem_cons] at h
    rcases h with rfl | h
    ·exact .inr ⟨x,List.mem_cons_self,hs,rfl⟩
    ·exact .inl (List.mem_cons_of_mem _ h)
   |succ k=>
    simp only [fixR,hs,if_true,List.mem_cons] at h
    rcases h with rfl | h
    ·exact .inl List.mem_cons_self
    ·rcases fixR_mem h with h1 | ⟨y,h1,h2⟩
     ·exact .inl (List.mem_cons_of_mem _ h1)
     ·exact .inr ⟨y,List.mem_cons_of_mem _ h1,h2⟩
theorem SzP.fix {L L0 : Nat} {p : Pat} (h : SzP L L0 p) (k : Nat) {c : Str} (hc : comp c = true) (hl : c.length ≤ L) : SzP (L + L0) L0 (fixP p k c):=by
 refine ⟨fun z hz=>?_,fun z hz hs=>?_⟩
 ·rcases fixR_mem hz with h1 | ⟨x,h1,h2,rfl⟩
  ·have:=h.each z h1
   omega
  ·have:=h.star x h1 h2
   rw [List.length_append,List.length_tail]
   omega
 ·rcases fixR_mem hz with h1 | ⟨x,h1,h2,rfl⟩
  ·exact h.star z h1 hs
  ·rw [star_app (comp_ne hc),comp_noStar hc] at hs
   cases hs
theorem detP_len {s t c : Str} {L : Nat} (h : detP s t = some c) (hs : s.length ≤ L) (ht : t.length ≤ L) : c.length ≤ L:=by
 have key : ∀ a b : Str,b.length ≤ L → (cap1 a b).length ≤ L:=fun a b hb=>by
  unfold cap1
  rw [List.length_take]
  omega
 unfold detP at h
 split at h
 ·split at h
  ·cases h
  ·split at h
   ·obtain rfl:=Option.some.inj h
    exact key _ _ ht
   ·cases h
 ·split at h
  ·split at h
   ·obtain rfl:=Option.some.inj h
    exact key _ _ hs
   ·cases h
  ·cases h
def eqzP (n : Nat) (m x y : Pat) : Option Pat:=if x.parts.length ≠ y.parts.length then none else eqP n m x y
theorem detP_swap (s t : Str) : detP s t = detP t s:=by
 unfold detP
 rcases isStar s with _ | _ <;> rcases isStar t with _ | _ <;> simp
theorem detP_one {s t : Str} (hs : isStar s = false) (ht : isStar t = true) : detP s t = if mtch t s then some (cap1 t s) else none:=by
 unfold detP
 rw [hs,ht]
 simp
theorem detP_lit {s t : Str} (hs : isStar s = false) (ht : isStar t = false) : detP s t = none:=by
 unfold detP
 rw [hs,ht]
 simp
theorem detP_both {s t : Str} (hs : isStar s = true) (ht : isStar t = true) : detP s t = none:=by
 unfold detP
 rw [hs,ht]
 simp
theorem regsL_app {f : Ent → Ent → Option (Option Reg)} : ∀ (m ms : List (Ent × Ent)),regsL f (m ++ ms) = match regsL f m with
  |none=>none
  |some l=>(regsL f ms).map (l ++ ·)
 |[],ms=>by
  simp only [List.nil_append,regsL]
  simp
 |p :: m,ms=>by
  have ih:=regsL_app (f:=f) m ms
  simp only [List.cons_append,regsL]
  rcases f p.1 p.2 with _ | o
  ·rfl
  ·simp only
   rw [ih]
   rcases regsL f m with _ | l
   ·rfl
   ·simp only [Option.map_some]
    rcases regsL f ms with _ | l'
    ·rfl
    ·simp
theorem regsL_one {f : Ent → Ent → Option (Option Reg)} (p : Ent × Ent) : regsL f [p] = (f p.1 p.2).map Option.toList:=by
 simp only [regsL]
 rcases f p.1 p.2 with _ | o
 ·rfl
 ·simp
theorem regsL_stop {f : Ent → Ent → Option (Option Reg)} {pre post : List (Ent × Ent)} {p : Ent × Ent} (h : f p.1 p.2 = none) : regsL f (pre ++ [p] ++ post) = none:=by
 have h1 : regsL f (pre ++ [p]) = none:=by
  rw [regsL_app,regsL_one,h]
  rcases regsL f pre with _ | l <;> rfl
 rw [regsL_app,h1]
theorem regsL_step {f : Ent → Ent → Option (Option Reg)} {pre : List (Ent × Ent)} {out : List Reg} {p : Ent × Ent} {o : Option Reg} (h : regsL f pre = some out) (hp : f p.1 p.2 = some o) : regsL f (pre ++ [p]) = some (out ++ o.toList):=by
 rw [regsL_app,h,regsL_one,hp]
 rfl
theorem regsL_len {f : Ent → Ent → Option (Option Reg)} {L : List (Ent × Ent)} {out : List Reg} (h : regsL f L = some out) : out.length ≤ L.length:=by
 rw [(regsL_mem h).2]
 exact List.length_filterMap_le _ _
end Go.Proofs.YtnlnclefedohkaaGreatDoor.Sy
set_option linter.unusedVariables false
set_option linter.unusedSimpArgs false
namespace Go.Proofs.YtnlnclefedohkaaGreatDoor
open Go Go.RowKit

end Go.Proofs.YtnlnclefedohkaaGreatDoor
set_option linter.unusedVariables false
set_option linter.unusedSimpArgs false
namespace Go.Proofs.YtnlnclefedohkaaGreatDoor
open Go Go.RowKit Sy

end Go.Proofs.YtnlnclefedohkaaGreatDoor
set_option linter.unusedVariables false
set_option linter.unusedSimpArgs false
namespace Go.Proofs.YtnlnclefedohkaaGreatDoor
open Go Go.RowKit Sy

theorem cutStar_c (l : Str) (w : World) : Calls Tryz.prog 140 #[.string (bs l),.string ⟨#[42]⟩] w fun e w'=>e = .returned (.tuple #[.string (bs (Lib.trimPrefix l [42])),.bool (isStar l)]) ∧ w = w':=
 (Tryz.strings_CutPrefix (bs l) ⟨#[42]⟩ w).mono fun _ _ ⟨he,hw⟩=>⟨by rw [he,bs_toList,← hasPrefix42];rfl,hw.symm⟩
theorem trimStar {l : Str} (h : isStar l = true) : Lib.trimPrefix l [42] = l.tail:=by
 unfold Lib.trimPrefix
 rw [hasPrefix42,h]
 simp

end Go.Proofs.YtnlnclefedohkaaGreatDoor
set_option linter.unusedVariables false
set_option linter.unusedSimpArgs false
namespace Go.Proofs.YtnlnclefedohkaaGreatDoor
open Go Go.RowKit Sy

theorem copy_w (p : Pat) (A : Option Addr) (n c : Nat) (re : Bool) (w : World) (hr : StrsU w A p.parts) (hn : p.parts.length = n) (hre : p.rest = re) :
  Calls Tryz.prog 56 #[.agg #[.slice A n c,.bool re]] w fun e w'=>(∃ A2 c2,e = .returned (.agg #[.slice A2 n c2,.bool re]) ∧ NewS w' w.heap.size A2 c2 p.parts) ∧ Calm w w':=by
 subst hn hre
 exact copy_c p A c w hr
def FixEnd (ls : List Str) (n : Nat) (re : Bool) (B : Nat) (e : Ending) (w' : World) : Prop:=∃ A2 c2,e = .returned (.agg #[.slice A2 n c2,.bool re]) ∧ NewS w' B A2 c2 ls
theorem two_put {w : World} {B : Nat} {z0 z1 : Value} (h : TwoB w B z0 z1) (u0 u1 : Value) : TwoB ((w.setCell ⟨B,0,none⟩ u0).setCell ⟨B,1,none⟩ u1) B u0 u1:=by
 refine ⟨by simpa using h.lt,?_,?_,fun o=>by simpa using h.fz o⟩
 ·rw [World.cell?_setCell_other _ _ _ _ (by simp)]
  exact World.cell?_setCell_same' _ _ _ (by rw [h.c0];rfl)
 ·exact World.cell?_setCell_same' _ _ _ (by rw [World.cell?_setCell_other _ _ _ _ (by simp),h.c1];rfl)
theorem two_other {w : World} {B b o : Nat} {z0 z1 : Value} (h : TwoB w B z0 z1) (hb : ¬ b = B) (u : Value) : TwoB (w.setCell ⟨b,o,none⟩ u) B z0 z1:=by
 have e : (w.setCell ⟨b,o,none⟩ u).heap[B]? = w.heap[B]?:=Deep.blk_setCell_other _ _ _ _ (fun e=>hb e.symm)
 exact ⟨by simpa using h.lt,(World.cell?_of_block (a:=⟨B,0,none⟩) e).trans h.c0,(World.cell?_of_block (a:=⟨B,1,none⟩) e).trans h.c1,fun j=>(World.frozen?_of_block (a:=⟨B,j,none⟩) e).trans (h.fz j)⟩
set_option maxHeartbeats 8000000 in
theorem fix_c (p : Pat) (k : Nat) (c : Str) (A : Option Addr) (n cp : Nat) (re : Bool) (w : World) (hr : StrsR w A p.parts) (hn : p.parts.length = n) (hre : p.rest = re) (hc : c.length ≤ 16384) (hk : k ≤ 16384) :
  Calls Tryz.prog 113 #[.agg #[.slice A n cp,.bool re],.int .i64 k,.string (bs c)] w fun e w'=>FixEnd (fixR p.parts k c) n re w.heap.size e w' ∧ Calm w w':=by
 obtain ⟨w1,hw1⟩ : ∃ w1,w1 = (w.alloc (.cells #[.slice A n cp,.bool re] 40)).alloc (.cells #[.slice none 0 0,.bool false] 40):=⟨_,rfl⟩
 obtain ⟨B,hB⟩ : ∃ B,w.heap.size = B:=⟨_,rfl⟩
 have hc1 : Calm w w1:=by rw [hw1];exact ((Calm.refl w).alloc _).alloc _
 have hb0 : TwoB w1 B (.slice A n cp) (.bool re):=by
  rw [hw1,← hB]
  exact (TwoB.new w _ _ _).calm ((Calm.refl _).alloc _)
 have hb1 : TwoB w1 (B + 1) (.slice none 0 0) (.bool false):=by
  rw [hw1,← hB]
  have:=TwoB.new (w.alloc (.cells #[.slice A n cp,.bool re] 40)) (.slice none 0 0) (.bool false) 40
  simpa using this
 have hsz : w1.heap.size = B + 2:=by rw [hw1,← hB];simp
 have KCp:=copy_w p A n cp re w1 (hr.toU.calm hc1) hn hre
 have hns : n ≤ 16384:=by rw [← hn];exact hr.len
 have HE : Hid (∀ s ∈ p.parts,s.length ≤ 16384):=hr.each
 have HW:=Lib.hid hw1
 have HBs:=Lib.hid hB
 have HC:=Lib.hid hc1
 have HB0:=Lib.hid hb0
 have HB1:=Lib.hid hb1
 have HN:=Lib.hid hn
 have HSz:=Lib.hid hsz
 clear hr hn hre hw1 hB hc1 hb0 hb1 hsz
 go_enter Tryz.func113,Tryz.ntmps113
 go_wp2_with fail
 rw [← HW.out,HBs.out]
 refine KCp.mono ?_
 rintro e w2 ⟨⟨A2,c2,rfl,hN2⟩,hc2⟩
 have b2:=HB0.out.calm hc2
 have z0:=b2.c0
 have z1:=b2.c1
 have f0:=b2.fz 0
 have f1:=b2.fz 1
 obtain ⟨w3,hw3⟩ : ∃ w3,w3 = (w2.setCell ⟨B,0,none⟩ (.slice A2 n c2)).setCell ⟨B,1,none⟩ (.bool re):=⟨_,rfl⟩
 have HB3 : Hid (TwoB w3 B (.slice A2 n c2) (.bool re)):=by rw [hw3];exact two_put b2 _ _
 have HB4 : Hid (TwoB w3 (B + 1) (.slice none 0 0) (.bool false)):=by
  rw [hw3]
  exact two_other (two_other (HB1.out.calm hc2) (by omega) _) (by omega) _
 have HC3 : Hid (Calm w w3):=by
  show Below _ _ _
  rw [hw3]
  exact Below.setCell (p:=⟨B,1,none⟩) (Below.setCell (p:=⟨B,0,none⟩) (HC.out.trans hc2) (by have:=HBs.out;show w.heap.size ≤ B;omega) _) (by have:=HBs.out;show w.heap.size ≤ B;omega) _
 have HN3 : Hid (NewS w3 (B + 2) A2 c2 p.parts):=by
  rw [hw3]
  have:=hN2.mono (B':=B + 2) (by have:=HSz.out;omega)
  exact (this.set (p:=⟨B,0,none⟩) _ (by show B < B + 2;omega)).set (p:=⟨B,1,none⟩) _ (by show B < B + 2;omega)
 have HW3:=Lib.hid hw3
 clear hN2 hc2 b2 hw3
 go_wp2_with fail
 rw [← HW3.out]
 clear z0 z1 f0 f1
 go_loopw [1,16] (fun v u wr=>∃ (i j : Nat),(i ≤ n ∧ j ≤ 16384) ∧ u = .int .i64 i ∧ v = .int .i64 j ∧ Hid (FixAt p.parts k c i j) ∧ wr = w3) (fun _ u _=>n - (intOf u).toNat)
 case atStart=>exact ⟨0,k,⟨Nat.zero_le _,hk⟩,rfl,rfl,FixAt.start _ _ _,rfl⟩
 case round=>
  obtain ⟨i,j,⟨hi,hj6⟩,rfl,rfl,HF,hwr⟩:=hrel
  subst hwr
  have d0:=HB3.out.c0
  have d1:=HB3.out.c1
  have e0:=HB4.out.c0
  have e1:=HB4.out.c1
  have g0:=HB4.out.fz 0
  have g1:=HB4.out.fz 1
  by_cases hlt : i < n
  ·obtain ⟨g,o,x,rfl,hBg,hx,hxl,hcx⟩:=HN3.out.get (k:=i) (by rw [HN.out];exact hlt)
   have kc:=cutStar_c x wr
   have HX:=Lib.hid hx
   clear hx
   rcases hs : isStar x with _ | _
   ·rw [hs] at kc
    have HS:=Lib.hid hs
    clear hs e0 e1 g0 g1
    go_wp2_with fail
    refine kc.mono ?_
    rintro e w' ⟨rfl,rfl⟩
    go_wp2_with fail
    go_roundw
    case rel=>exact ⟨i + 1,j,⟨by omega,by omega⟩,by go_num,rfl,HF.out.go HX.out HS.out,trivial⟩
    case measure=>simp [intOf];omega
   ·rw [hs,trimStar hs] at kc
    have HS:=Lib.hid hs
    clear hs
    cases j with
    |zero=>
     have hfr:=HN3.out.free (o + i)
     have hcat : bs c ++ bs x.tail = bs (c ++ x.tail):=(bs_append c x.tail).symm
     have n0 : ¬ g = B:=by omega
     have n1 : ¬ B = g:=by omega
     have n2 : ¬ g = B + 1:=by omega
     have n3 : ¬ B + 1 = g:=by omega
     go_wp2_with fail
     refine kc.mono ?_
     rintro e w' ⟨rfl,rfl⟩
     go_wp2_with fail
     have hset : NewS (wr.setCell ⟨g,o + i,none⟩ (.string (bs (c ++ x.tail)))) (B + 2) (some ⟨g,o,none⟩) c2 (p.parts.set i (c ++ x.tail)):=HN3.out.put (by rw [HN.out];exact hlt) (by rw [List.length_append,List.length_tail];have:=HE.out x (List.mem_of_getElem? HX.out);omega)
     have hb4:=two_put (two_other (o:=o + i) HB4.out n2 (.string (bs (c ++ x.tail)))) (.slice (some ⟨g,o,none⟩) n c2) (.bool re)
     have q0:=hb4.c0
     have q1:=hb4.c1
     refine bodyPost_ret (v:=.agg #[.slice (some ⟨g,o,none⟩) n c2,.bool re]) ?_ rfl ⟨⟨_,_,rfl,?_⟩,?_⟩
     ·rw [results_cell1 rfl]
      go_simp
     ·rw [HF.out.hit HX.out HS.out]
      exact ((hset.set (p:=⟨B + 1,0,none⟩) _ (by show B + 1 < B + 2;omega)).set (p:=⟨B + 1,1,none⟩) _ (by show B + 1 < B + 2;omega)).mono (by have:=HBs.out;omega)
     ·exact Below.setCell (p:=⟨B + 1,1,none⟩) (Below.setCell (p:=⟨B + 1,0,none⟩) (Below.setCell (p:=⟨g,o + i,none⟩) HC3.out (by have:=HBs.out;show w.heap.size ≤ g;omega) _) (by have:=HBs.out;show w.heap.size ≤ B + 1;omega) _) (by have:=HBs.out;show w.heap.size ≤ B + 1;omega) _
    |succ j=>
     clear e0 e1 g0 g1
     have hj : ((j + 1 : Nat) : Int) ≠ 0:=by omega
     go_wp2_with fail
     refine kc.mono ?_
     rintro e w' ⟨rfl,rfl⟩
     go_wp2_with fail
     go_roundw
     case rel=>exact ⟨i + 1,j,⟨by omega,by omega⟩,by go_num,by go_num,HF.out.pass HX.out HS.out,trivial⟩
     case measure=>simp [intOf];omega
  ·obtain rfl : i = n:=by omega
   have hfin : fixR p.parts k c = p.parts:=HF.out.done (by rw [HN.out];exact Nat.le_refl _)
   go_wp2_with fail
   have hb4:=two_put HB4.out (.slice A2 i c2) (.bool re)
   have q0:=hb4.c0
   have q1:=hb4.c1
   refine bodyPost_ret (v:=.agg #[.slice A2 i c2,.bool re]) ?_ rfl ⟨⟨_,_,rfl,?_⟩,?_⟩
   ·rw [results_cell1 rfl]
    go_simp
   ·rw [hfin]
    exact ((HN3.out.set (p:=⟨B + 1,0,none⟩) _ (by show B + 1 < B + 2;omega)).set (p:=⟨B + 1,1,none⟩) _ (by show B + 1 < B + 2;omega)).mono (by have:=HBs.out;omega)
   ·exact Below.setCell (p:=⟨B + 1,1,none⟩) (Below.setCell (p:=⟨B + 1,0,none⟩) HC3.out (by have:=HBs.out;show w.heap.size ≤ B + 1;omega) _) (by have:=HBs.out;show w.heap.size ≤ B + 1;omega) _
end Go.Proofs.YtnlnclefedohkaaGreatDoor
