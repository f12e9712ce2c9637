/- Walk: pattern.Copy. -/
import Derived.Deep.RegionWith
import Derived.Deep.Heap
import Derived.Test.YthopphabeddnfaaGreatDoorZStr
set_option linter.unusedVariables false
set_option linter.unusedSimpArgs false
namespace Go.Proofs.YthopphabeddnfaaGreatDoor
open Go Go.RowKit Sy

theorem results_cell1 {fn : Func} {p : Tmp} {ty : TypeId} (h : fn.results = #[.cell p ty]) (tmps : Array Value) (P : Program) (w : World) :
  (results fn tmps).run P w = ((asAddr (tmps.getD p undef)).run P w).andThen fun a w₁=>(loadVar ty a).run P w₁:=by
 simp only [results,h]
 simp [Sem.run_bind,Result.andThen]
structure NewS (w : World) (B : Nat) (A : Option Addr) (c : Nat) (ls : List Str) : Prop where
 u : StrsU w A ls
 room : ls.length ≤ c
 cap : c ≤ 9223372036854775807
 new : ∀ ad,A = some ad → B ≤ ad.block
 row : ∀ ad,A = some ad → ∃ cs,w.heap[ad.block]? = some (.cells cs 9 (0,0))
theorem heap_lt {w : World} {b : Nat} {o : Obj} (h : w.heap[b]? = some o) : b < w.heap.size:=by
 rcases Nat.lt_or_ge b w.heap.size with h' | h'
 ·exact h'
 ·rw [Array.getElem?_eq_none h'] at h
  cases h
theorem NewS.calm {w w' : World} {B : Nat} {A : Option Addr} {c : Nat} {ls : List Str} (h : NewS w B A c ls) (hc : Calm w w') : NewS w' B A c ls:=
 ⟨h.u.calm hc,h.room,h.cap,h.new,fun ad hA=>by
  obtain ⟨cs,hh⟩:=h.row ad hA
  exact ⟨cs,(hc.block _ (heap_lt hh)).trans hh⟩⟩
theorem NewS.nil (w : World) (B : Nat) : NewS w B none 0 []:=⟨⟨by simp,(fun l hl=>by cases hl),(fun h=>by simp at h)⟩,Nat.le_refl _,by omega,(fun ad h=>by cases h),(fun ad h=>by cases h)⟩
theorem NewS.grown {w w' : World} {B : Nat} {A : Option Addr} {c : Nat} {ls : List Str} (h : NewS w B A c ls) {B0 n size : Nat} {v : Value} {T : TypeId} {xs : List Value} (hT : 9 ≠ T) (hown : w.ownsRow B0 T size v n xs) (hg : w.grownBy w' v.ownBlock) : NewS w' B A c ls:=by
 have hne : ∀ ad,A = some ad → some ad.block ≠ v.ownBlock:=fun ad hA e=>by
  obtain ⟨cs,hh⟩:=h.row ad hA
  rcases hown.2 with ⟨rfl,_⟩ | ⟨g,cap,cur,rfl,_,hgh,_⟩
  ·simp [Value.ownBlock] at e
  ·have e2 : ad.block = g:=by simpa [Value.ownBlock] using e
   rw [e2,hgh] at hh
   injection hh with hh
   injection hh with _ ht
   exact hT ht.symm
 refine ⟨⟨h.u.len,h.u.each,fun h0=>?_⟩,h.room,h.cap,h.new,fun ad hA=>?_⟩
 ·obtain ⟨b,o,hA,hb,hk⟩:=h.u.at_ h0
  exact ⟨b,o,hA,Nat.lt_of_lt_of_le hb hg.size,fun k l hl=>hg.cell (hk k l hl) (show some b ≠ v.ownBlock from hne _ hA)⟩
 ·obtain ⟨cs,hh⟩:=h.row ad hA
  exact ⟨cs,(hg.block _ (heap_lt hh) (hne ad hA)).trans hh⟩
theorem NewS.set {w : World} {B : Nat} {A : Option Addr} {c : Nat} {ls : List Str} (h : NewS w B A c ls) {p : Addr} (u : Value) (hp : p.block < B) : NewS (w.setCell p u) B A c ls:=by
 refine ⟨⟨h.u.len,h.u.each,fun h0=>?_⟩,h.room,h.cap,h.new,fun ad hA=>?_⟩
 ·obtain ⟨b,o,hA,hb,hk⟩:=h.u.at_ h0
  refine ⟨b,o,hA,by simpa using hb,fun k l hl=>(World.cell?_setCell_other _ _ _ _ ?_).trans (hk k l hl)⟩
  intro e
  have:=h.new _ hA
  have e2:=congrArg Addr.block e
  simp at e2
  simp at this
  omega
 ·obtain ⟨cs,hh⟩:=h.row ad hA
  exact ⟨cs,(Deep.blk_setCell_other _ _ _ _ (by have:=h.new ad hA;omega)).trans hh⟩
theorem NewS.mono {w : World} {B B' : Nat} {A : Option Addr} {c : Nat} {ls : List Str} (h : NewS w B A c ls) (hB : B' ≤ B) : NewS w B' A c ls:=⟨h.u,h.room,h.cap,fun ad hA=>Nat.le_trans hB (h.new ad hA),h.row⟩
def CloneEnd (ls : List Str) (B : Nat) (e : Ending) (w' : World) : Prop:=∃ A c,e = .returned (.slice A ls.length c) ∧ NewS w' B A c ls

theorem own_newS {w : World} {B : Nat} {v : Value} {ls : List Str} (h : w.ownsRow B 9 1 v ls.length (strCells ls)) (h1 : ls.length ≤ 8388608) (h2 : ∀ l ∈ ls,l.length ≤ 8388608) : ∃ A c,v = .slice A ls.length c ∧ NewS w B A c ls:=by
 rcases h.2 with ⟨rfl,h0⟩ | ⟨g,cap,cur,rfl,hg,hh,hcap,hm,hs,ht⟩
 ·have : ls = []:=List.eq_nil_of_length_eq_zero h0
  subst this
  exact ⟨none,0,rfl,NewS.nil w B⟩
 ·have hlt : g < w.heap.size:=by
   rcases Nat.lt_or_ge g w.heap.size with h | h
   ·exact h
   ·rw [Array.getElem?_eq_none h] at hh;cases hh
  refine ⟨_,cap,rfl,⟨h1,h2,fun _=>⟨g,0,rfl,hlt,fun j l hl=>?_⟩⟩,hcap,by unfold maxLen at hm;omega,fun ad hA=>by obtain rfl:=Option.some.inj hA;exact hg,fun ad hA=>by obtain rfl:=Option.some.inj hA;exact ⟨cur,hh⟩⟩
  have:=h.cells (g:=g) rfl j (.string (bs l)) (by simp [strCells,hl])
  simpa [Addr.add_lit] using this

theorem clone_c (ls : List Str) (A : Option Addr) (c : Nat) (w : World) (hr : StrsU w A ls) :
  Calls Tryz.prog 47 #[.slice A ls.length c] w fun e w'=>CloneEnd ls w.heap.size e w' ∧ Calm w w':=by
 cases A with
 |none=>
  have h0 : ls = []:=by
   cases ls with
   |nil=>rfl
   |cons y t=>
    obtain ⟨b,o',hA,_⟩:=hr.at_ (by simp)
    cases hA
  subst h0
  exact (Tryz.slices_Clone_string_nil 0 c w).mono fun e w' ⟨h1,h2⟩=>⟨⟨none,0,h1,NewS.nil _ _⟩,by rw [h2];exact Calm.refl w⟩
 |some ad=>
  by_cases hl : ls = []
  ·subst hl
   exact (Tryz.slices_Clone_string_zero ad c w).mono fun e w' ⟨v',h1,h2,_,h3⟩=>by
    obtain ⟨A',c',h4,h5⟩:=own_newS (ls:=[]) h2 (by simp) (fun l hl=>by cases hl)
    exact ⟨⟨A',c',by rw [h1,h4],h5⟩,h3⟩
  ·obtain ⟨b,o,hA,hb,hk⟩:=hr.at_ (List.length_pos_iff.2 hl)
   obtain rfl:=Option.some.inj hA
   have hlen:=hr.len
   exact (Tryz.slices_Clone_string b o ls.length c (ls.map bs) w (by simp) (by omega) (fun j hj=>by
    rw [List.length_map] at hj
    rw [hk j _ (List.getElem?_eq_getElem hj)]
    simp [List.getD_eq_getElem?_getD,hj])).mono fun e w' ⟨v',h1,h2,_,h3⟩=>by
     have e1 : ((ls.map bs).take ls.length).map Value.string = strCells ls:=by
      rw [List.take_of_length_le (by simp),List.map_map]
      rfl
     rw [e1] at h2
     obtain ⟨A',c',h4,h5⟩:=own_newS h2 hr.len hr.each
     exact ⟨⟨A',c',by rw [h1,h4],h5⟩,h3⟩

end Go.Proofs.YthopphabeddnfaaGreatDoor
set_option linter.unusedVariables false
set_option linter.unusedSimpArgs false
namespace Go.Proofs.YthopphabeddnfaaGreatDoor
open Go Go.RowKit Sy

def CopyEnd (p : Pat) (B : Nat) (e : Ending) (w' : World) : Prop:=∃ A c,e = .returned (.agg #[.slice A p.parts.length c,.bool p.rest]) ∧ NewS w' B A c p.parts

set_option maxHeartbeats 2000000 in
theorem copy_c (p : Pat) (A : Option Addr) (c : Nat) (w : World) (hr : StrsU w A p.parts) :
  Calls Tryz.prog 17 #[.agg #[.slice A p.parts.length c,.bool p.rest]] w fun e w'=>CopyEnd p w.heap.size e w' ∧ Calm w w':=by
 obtain ⟨n,hn⟩ : ∃ n,p.parts.length = n:=⟨_,rfl⟩
 obtain ⟨re,hre⟩ : ∃ re,p.rest = re:=⟨_,rfl⟩
 obtain ⟨w1,hw1⟩ : ∃ w1,w1 = (w.alloc (.cells #[.slice A n c,.bool re] 37)).alloc (.cells #[.slice none 0 0,.bool false] 37):=⟨_,rfl⟩
 have hc1 : Calm w w1:=by rw [hw1];exact ((Calm.refl w).alloc _).alloc _
 have hz1 : w1.heap.size = w.heap.size + 2:=by rw [hw1];simp
 have k0 : w1.cell? ⟨w.heap.size,0,none⟩ = some (.slice A n c):=by rw [hw1];simp
 have k1 : w1.cell? ⟨w.heap.size,1,none⟩ = some (.bool re):=by rw [hw1];simp
 have k2 : w1.cell? ⟨w.heap.size + 1,0,none⟩ = some (.slice none 0 0):=by rw [hw1];simp
 have k3 : w1.cell? ⟨w.heap.size + 1,1,none⟩ = some (.bool false):=by rw [hw1];simp
 have f0 : w1.frozen? ⟨w.heap.size + 1,0,none⟩ = false:=by rw [hw1];simp
 have f1 : w1.frozen? ⟨w.heap.size + 1,1,none⟩ = false:=by rw [hw1];simp
 have KC : Hid (∀ W,Calm w1 W → Calls Tryz.prog 47 #[.slice A n c] W fun e w'=>(∃ A2 c2,e = .returned (.slice A2 n c2) ∧ NewS w' W.heap.size A2 c2 p.parts) ∧ Calm W w'):=fun W hW=>by
  have:=clone_c p.parts A c W ((hr.calm hc1).calm hW)
  unfold CloneEnd at this
  rw [hn] at this
  exact this
 have HW:=Lib.hid hw1
 have HC:=Lib.hid hc1
 have HN:=Lib.hid (And.intro hn hre)
 have HK:=Lib.hid (And.intro k0 (And.intro k1 (And.intro k2 (And.intro k3 (And.intro f0 (And.intro f1 hz1))))))
 rw [hn,hre]
 clear hw1 hc1 hr hn hre hz1
 go_enter Tryz.func17,Tryz.ntmps17
 go_wp2
 rw [← HW.out]
 go_region_with (go_at_call 47;refine (KC.out _ (by first | exact Calm.refl _ | exact (Calm.refl _).drewN _ | exact Below.drew (Calm.refl _))).mono ?_;rintro e w2 ⟨⟨A2,c2,rfl,hns⟩,hc2⟩;have hcx : Calm w1 w2:=Calm.trans (by first | exact Calm.refl _ | exact (Calm.refl _).drewN _ | exact Below.drew (Calm.refl _)) hc2;have z1:=hcx.at_ HK.out.2.1 (by rw [HK.out.2.2.2.2.2.2];omega);have z2:=hcx.at_ HK.out.2.2.1 (by rw [HK.out.2.2.2.2.2.2];omega);have z3:=hcx.at_ HK.out.2.2.2.1 (by rw [HK.out.2.2.2.2.2.2];omega);have z4:=(hcx.frozen (p:=⟨w.heap.size + 1,0,none⟩) (by rw [HK.out.2.2.2.2.2.2];show w.heap.size + 1 < _;omega)).trans HK.out.2.2.2.2.1;have z5:=(hcx.frozen (p:=⟨w.heap.size + 1,1,none⟩) (by rw [HK.out.2.2.2.2.2.2];show w.heap.size + 1 < _;omega)).trans HK.out.2.2.2.2.2.1)
 all_goals
  have hc3 : Calm w ((w2.setCell ⟨w.heap.size + 1,0,none⟩ (.slice A2 n c2)).setCell ⟨w.heap.size + 1,1,none⟩ (.bool re)):=Below.setCell (Below.setCell (HC.out.trans hcx) (by show w.heap.size ≤ w.heap.size + 1;omega) _) (by show w.heap.size ≤ w.heap.size + 1;omega) _
  have hn3:=((hns.set (p:=⟨w.heap.size + 1,0,none⟩) (.slice A2 n c2) (by show w.heap.size + 1 < _;have:=HK.out.2.2.2.2.2.2;simp;omega)).set (p:=⟨w.heap.size + 1,1,none⟩) (.bool re) (by show w.heap.size + 1 < _;have:=HK.out.2.2.2.2.2.2;simp;omega))
  have hn4:=hn3.mono (show w.heap.size ≤ _ by have:=HK.out.2.2.2.2.2.2;simp;omega)
  clear hns hn3 KC k0 k1 k2 k3 f0 f1 hc2 hcx
  go_wp2
  refine bodyPost_ret (v:=.agg #[.slice A2 n c2,.bool re]) ?_ rfl ⟨⟨A2,c2,by rw [HN.out.1,HN.out.2],hn4⟩,hc3⟩
  rw [results_cell1 rfl]
  go_simp
end Go.Proofs.YthopphabeddnfaaGreatDoor
