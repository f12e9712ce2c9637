/- A collection of entries or of regions, full or not: its add. -/
import Derived.Test.YtnlnclefedohkaaGreatDoorZConcatP
import Derived.Test.YtnlnclefedohkaaGreatDoorZCommonP
import Derived.Test.YtnlnclefedohkaaGreatDoorZColE
set_option linter.unusedVariables false
set_option linter.unusedSimpArgs false
namespace Go.Proofs.YtnlnclefedohkaaGreatDoor
open Go Go.RowKit Sy
structure RegN (w : World) (B : Nat) (A : Option Addr) (c : Nat) (HA : Option Addr) (hc : Nat) (g : Reg) : Prop where
 base : SmallN w B ⟨A,c,g.b⟩
 holes : PatsN w B HA hc g.hs
theorem RegN.calm {w w' : World} {B : Nat} {A : Option Addr} {c : Nat} {HA : Option Addr} {hc : Nat} {g : Reg} (h : RegN w B A c HA hc g) (hcm : Calm w w') : RegN w' B A c HA hc g:=⟨h.base.calm hcm,h.holes.calm hcm⟩
theorem RegN.mono {w : World} {B B' : Nat} {A : Option Addr} {c : Nat} {HA : Option Addr} {hc : Nat} {g : Reg} (h : RegN w B A c HA hc g) (hB : B' ≤ B) : RegN w B' A c HA hc g:=⟨h.base.mono hB,h.holes.mono hB⟩
theorem RegN.set {w : World} {B : Nat} {A : Option Addr} {c : Nat} {HA : Option Addr} {hc : Nat} {g : Reg} (h : RegN w B A c HA hc g) {p : Addr} (u : Value) (hp : p.block < B) : RegN (w.setCell p u) B A c HA hc g:=⟨h.base.set u hp,h.holes.set u hp⟩
theorem regN_of {w : World} {B : Nat} {A : Option Addr} {c : Nat} {HA : Option Addr} {hc : Nat} {b : Pat} {hs : List Pat} (h1 : NewS w B A c b.parts) (h2 : PatsN w B HA hc hs) (h3 : b.parts.length ≤ 16384) (h4 : ∀ l ∈ b.parts,l.length ≤ 16384) : RegN w B A c HA hc ⟨b,hs⟩:=⟨⟨h1,h3,h4⟩,h2⟩
structure NewG where
 A : Option Addr
 c : Nat
 HA : Option Addr
 hc : Nat
 g : Reg
deriving Inhabited
def encG (x : NewG) : List Value:=[.slice x.A x.g.b.parts.length x.c,.bool x.g.b.rest,.slice x.HA x.g.hs.length x.hc]
theorem encG_len (x : NewG) : (encG x).length = 3:=rfl
theorem encG_one (x : NewG) : ∀ u ∈ encG x,u.oneCell' = true:=by simp [encG,Value.oneCell']
def NewG.ok (w : World) (B : Nat) (x : NewG) : Prop:=RegN w B x.A x.c x.HA x.hc x.g
theorem RegN.own {w w' : World} {B : Nat} {A : Option Addr} {c : Nat} {HA : Option Addr} {hc : Nat} {g : Reg} (h : RegN w B A c HA hc g) {B0 n K : Nat} {v : Value} {T : TypeId} {xs : List Value} (hT : 40 ≠ T) (hS : 9 ≠ T) (hown : w.ownsRow B0 T K v n xs) (hg : w.grownBy w' v.ownBlock) : RegN w' B A c HA hc g:=⟨h.base.own hS hown hg,h.holes.own hT hS hown hg⟩
theorem info_reg : (Tryz.prog.info? 68).map (fun i=>(i.zero,i.size,i.bytes)) = some (some (.agg #[.slice none 0 0,.bool false,.slice none 0 0]),3,56):=by kernel_rfl
theorem read_newG {w : World} {n : Nat} (y : NewG) (h : w.heap.size = n) : ReadX encG 3 (w.alloc (.cells #[.slice y.A y.g.b.parts.length y.c,.bool y.g.b.rest,.slice y.HA y.g.hs.length y.hc] 68)) (some ⟨n,0,none⟩) [y]:=fun _=>by
 refine ⟨n,0,rfl,by rw [← h];simp [go_sem],fun k x hk i u hu=>?_⟩
 have h0 : k = 0:=by
  have:=(List.getElem?_eq_some_iff.1 hk).1
  simp at this
  exact this
 subst h0
 obtain rfl : y = x:=by simpa using hk
 subst h
 rw [cell_of_row _ w.heap.size _ _ _ _ (heap_alloc_new w _)]
 simpa [encG] using hu
theorem read_newN {w : World} {k : Nat} (z : NewG) {n pm : Nat} {re : Bool} (h1 : z.g.b.parts.length = n) (h2 : z.g.b.rest = re) (h3 : z.g.hs.length = pm) (h : w.heap.size = k) : ReadX encG 3 (w.alloc (.cells #[.slice z.A n z.c,.bool re,.slice z.HA pm z.hc] 68)) (some ⟨k,0,none⟩) [z]:=by
 subst h1 h2 h3
 exact read_newG z h
end Go.Proofs.YtnlnclefedohkaaGreatDoor
set_option linter.unusedVariables false
set_option linter.unusedSimpArgs false
namespace Go.Proofs.YtnlnclefedohkaaGreatDoor
open Go Go.RowKit Sy
structure ColG (w0 w : World) (G : Nat) (v : Value) (zs : List NewG) : Prop where
 own : OwnX encG 3 68 w0 w v zs
 lo : w0.heap.size ≤ G
 kind : ∃ cs,w.heap[G]? = some (.cells cs 70 (0,0))
 c0 : w.cell? ⟨G,0,none⟩ = some v
 c1 : w.cell? ⟨G,1,none⟩ = some (.bool false)
 each : ∀ z ∈ zs,NewG.ok w (G + 1) z
theorem ColG.lt {w0 w : World} {G : Nat} {v : Value} {zs : List NewG} (h : ColG w0 w G v zs) : G < w.heap.size:=by
 obtain ⟨cs,hh⟩:=h.kind
 exact heap_lt hh
theorem ColG.f {w0 w : World} {G : Nat} {v : Value} {zs : List NewG} (h : ColG w0 w G v zs) (o : Nat) : w.frozen? ⟨G,o,none⟩ = false:=by
 obtain ⟨cs,hh⟩:=h.kind
 exact frozen_of_row w G o cs _ hh
theorem ColG.calm {w0 w w' : World} {G : Nat} {v : Value} {zs : List NewG} (h : ColG w0 w G v zs) (hc : Calm w w') : ColG w0 w' G v zs:=
 ⟨h.own.to hc,h.lo,by obtain ⟨cs,hh⟩:=h.kind;exact ⟨cs,(hc.block _ h.lt).trans hh⟩,hc.at_ h.c0 h.lt,hc.at_ h.c1 h.lt,fun z hz=>RegN.calm (h.each z hz) hc⟩
theorem ColG.new {w0 w : World} (hc : Calm w0 w) : ColG w0 (w.alloc (.cells #[.slice none 0 0,.bool false] 70)) w.heap.size (.slice none 0 0) []:=
 ⟨OwnX.nil (hc.alloc _),hc.size,⟨_,heap_alloc_new w _⟩,by simp [go_sem],by simp [go_sem],fun z hz=>by cases hz⟩
theorem ColG.ne {w0 w : World} {G : Nat} {v : Value} {zs : List NewG} (h : ColG w0 w G v zs) : some G ≠ v.ownBlock:=h.own.kindne (by decide) h.kind
theorem ColG.add {w0 w w2 w3 : World} {G : Nat} {v v' : Value} {zs : List NewG} {z : NewG} (h : ColG w0 w G v zs) (hz : NewG.ok w (G + 1) z) (hc : Calm w w2) (hown : OwnX encG 3 68 w0 w3 v' (zs ++ [z])) (hg : w2.grownBy w3 v.ownBlock) : ColG w0 (w3.setCell ⟨G,0,none⟩ v') G v' (zs ++ [z]):=by
 have h2:=h.calm hc
 have hb:=hg.block G h2.lt h2.ne
 obtain ⟨cs,hh⟩:=h2.kind
 have hh3 : w3.heap[G]? = some (.cells cs 70 (0,0)):=hb.trans hh
 have k0 : w3.cell? ⟨G,0,none⟩ = some v:=(World.cell?_of_block (a:=⟨G,0,none⟩) hb).trans h2.c0
 refine ⟨hown.putE v' h.lo (hown.kindne (by decide) ⟨cs,hh3⟩),h.lo,⟨cs.setIfInBounds 0 v',by simp [World.setCell,Array.getElem?_modify,hh3]⟩,World.cell?_setCell_same' _ _ _ (by rw [k0];rfl),(World.cell?_setCell_other _ _ _ _ (by simp)).trans ((World.cell?_of_block (a:=⟨G,1,none⟩) hb).trans h2.c1),fun y hy=>?_⟩
 have hy3 : NewG.ok w3 (G + 1) y:=by
  rcases List.mem_append.1 hy with hy | hy
  ·exact RegN.own (h2.each y hy) (by decide) (by decide) h2.own.own hg
  ·rw [List.mem_singleton] at hy
   subst hy
   exact RegN.own (RegN.calm hz hc) (by decide) (by decide) h2.own.own hg
 exact RegN.set hy3 v' (Nat.lt_succ_self _)
theorem ColG.after {w0 w w2 w3 : World} {G : Nat} {v : Value} {zs : List NewG} (h : ColG w0 w G v zs) (hc : Calm w w2) (hg : w2.grownBy w3 v.ownBlock) : w3.cell? ⟨G,0,none⟩ = some v ∧ w3.frozen? ⟨G,0,none⟩ = false:=by
 have h2:=h.calm hc
 have hb:=hg.block G h2.lt h2.ne
 exact ⟨(World.cell?_of_block (a:=⟨G,0,none⟩) hb).trans h2.c0,(World.frozen?_of_block (a:=⟨G,0,none⟩) hb).trans (h2.f 0)⟩
theorem ColG.shape {w0 w : World} {G : Nat} {v : Value} {zs : List NewG} (h : ColG w0 w G v zs) : ∃ A c,v = .slice A zs.length c ∧ zs.length ≤ c ∧ c ≤ 9223372036854775807 ∧ ReadX encG 3 w A zs:=by
 rcases h.own.row encG_len with ⟨rfl,rfl⟩ | ⟨g,c,rfl,h1,h2,_,hr⟩
 ·exact ⟨none,0,rfl,Nat.le_refl _,by omega,fun h=>absurd rfl h⟩
 ·exact ⟨_,c,rfl,h1,h2,fun _=>⟨g,0,rfl,hr.lt,fun k x hk i u hu=>hr.cell k x hk i u hu⟩⟩
end Go.Proofs.YtnlnclefedohkaaGreatDoor
set_option linter.unusedVariables false
set_option linter.unusedSimpArgs false
namespace Go.Proofs.YtnlnclefedohkaaGreatDoor
open Go Go.RowKit

theorem resultE_c (g : Nat) (v : Value) (w : World) (k0 : w.cell? ⟨g,0,none⟩ = some v) (k1 : w.cell? ⟨g,1,none⟩ = some (.bool false)) (A : Option Addr) (n c : Nat) (hv : v = .slice A n c) :
  Calls Tryz.prog 26 #[.pointer (some ⟨g,0,none⟩)] w fun e w'=>e = .returned (.tuple #[.slice A n c,.int .i64 0]) ∧ w = w':=by
 subst hv
 go_enter Tryz.func26,Tryz.ntmps26
 go_wp2_with fail
 go_ret2
 exact ⟨rfl,rfl⟩
theorem resultE_full (g : Nat) (w : World) (k1 : w.cell? ⟨g,1,none⟩ = some (.bool true)) :
  Calls Tryz.prog 26 #[.pointer (some ⟨g,0,none⟩)] w fun e w'=>e = .returned (.tuple #[.slice none 0 0,.int .i64 72]) ∧ w = w':=by
 go_enter Tryz.func26,Tryz.ntmps26
 go_wp2_with fail
 go_ret2
 exact ⟨rfl,rfl⟩
theorem resultG_c (g : Nat) (v : Value) (w : World) (k0 : w.cell? ⟨g,0,none⟩ = some v) (k1 : w.cell? ⟨g,1,none⟩ = some (.bool false)) (A : Option Addr) (n c : Nat) (hv : v = .slice A n c) :
  Calls Tryz.prog 38 #[.pointer (some ⟨g,0,none⟩)] w fun e w'=>e = .returned (.tuple #[.slice A n c,.int .i64 0]) ∧ w = w':=by
 subst hv
 go_enter Tryz.func38,Tryz.ntmps38
 go_wp2_with fail
 go_ret2
 exact ⟨rfl,rfl⟩
theorem resultG_full (g : Nat) (w : World) (k1 : w.cell? ⟨g,1,none⟩ = some (.bool true)) :
  Calls Tryz.prog 38 #[.pointer (some ⟨g,0,none⟩)] w fun e w'=>e = .returned (.tuple #[.slice none 0 0,.int .i64 72]) ∧ w = w':=by
 go_enter Tryz.func38,Tryz.ntmps38
 go_wp2_with fail
 go_ret2
 exact ⟨rfl,rfl⟩
end Go.Proofs.YtnlnclefedohkaaGreatDoor
set_option linter.unusedVariables false
set_option linter.unusedSimpArgs false
namespace Go.Proofs.YtnlnclefedohkaaGreatDoor
open Go Go.RowKit Sy
def FrB (w w' : World) (B : Nat) : Prop:=∀ b,B ≤ b → b < w.heap.size → w'.heap[b]? = w.heap[b]?
theorem FrB.calm {w w' w2 : World} {B : Nat} (h : FrB w w' B) (hc : Calm w' w2) (hs : w.heap.size ≤ w'.heap.size) : FrB w w2 B:=fun b hb hbs=>(hc.block b (Nat.lt_of_lt_of_le hbs hs)).trans (h b hb hbs)
structure ColFull (T : TypeId) (w0 w : World) (G : Nat) : Prop where
 calm : Calm w0 w
 lo : w0.heap.size ≤ G
 kind : ∃ cs,w.heap[G]? = some (.cells cs T (0,0))
 c0 : ∃ A c,w.cell? ⟨G,0,none⟩ = some (.slice A 32 c)
 c1 : w.cell? ⟨G,1,none⟩ = some (.bool true)
theorem ColFull.lt {T : TypeId} {w0 w : World} {G : Nat} (h : ColFull T w0 w G) : G < w.heap.size:=by
 obtain ⟨cs,hh⟩:=h.kind
 exact heap_lt hh
theorem ColFull.to {T : TypeId} {w0 w w' : World} {G : Nat} (h : ColFull T w0 w G) (hc : Calm w w') : ColFull T w0 w' G:=
 ⟨h.calm.trans hc,h.lo,by obtain ⟨cs,hh⟩:=h.kind;exact ⟨cs,(hc.block _ h.lt).trans hh⟩,by obtain ⟨A,c,k⟩:=h.c0;exact ⟨A,c,hc.at_ k h.lt⟩,hc.at_ h.c1 h.lt⟩
theorem colFull_of {T : TypeId} {w0 w w1 : World} {G c : Nat} {A : Option Addr} {v1 : Value} (h0 : Calm w0 w) (hlo : w0.heap.size ≤ G) (hk : ∃ cs,w.heap[G]? = some (.cells cs T (0,0))) (k0 : w.cell? ⟨G,0,none⟩ = some (.slice A 32 c)) (k1 : w.cell? ⟨G,1,none⟩ = some v1) (hc : Calm w w1) : ColFull T w0 (w1.setCell ⟨G,1,none⟩ (.bool true)) G ∧ FrB w (w1.setCell ⟨G,1,none⟩ (.bool true)) (G + 1):=by
 obtain ⟨cs,hh⟩:=hk
 have hlt:=heap_lt hh
 have hh1 : w1.heap[G]? = some (.cells cs T (0,0)):=(hc.block _ hlt).trans hh
 refine ⟨⟨Below.setCell (h0.trans hc) hlo _,hlo,⟨cs.setIfInBounds 1 (.bool true),by simp [World.setCell,Array.getElem?_modify,hh1]⟩,⟨A,c,(World.cell?_setCell_other _ _ _ _ (by simp)).trans (hc.at_ k0 hlt)⟩,World.cell?_setCell_same' _ _ _ (by rw [hc.at_ k1 hlt];rfl)⟩,fun b hb hbs=>?_⟩
 rw [Deep.blk_setCell_other _ _ _ _ (fun e=>absurd (show G = b from e.symm) (by omega))]
 exact hc.block b hbs
def ColA (w0 w : World) (G : Nat) (es : List Ent) : Prop:=(∃ v zs,ColE w0 w G v zs ∧ zs.map (·.e) = es ∧ es.length ≤ 32) ∨ (32 < es.length ∧ ColFull 47 w0 w G)
def ColB (w0 w : World) (G : Nat) (gs : List Reg) : Prop:=(∃ v zs,ColG w0 w G v zs ∧ zs.map (·.g) = gs ∧ gs.length ≤ 32) ∨ (32 < gs.length ∧ ColFull 70 w0 w G)
theorem ColA.to {w0 w w' : World} {G : Nat} {es : List Ent} (h : ColA w0 w G es) (hc : Calm w w') : ColA w0 w' G es:=by
 rcases h with ⟨v,zs,h1,h2,h3⟩ | ⟨h1,h2⟩
 ·exact .inl ⟨v,zs,h1.calm hc,h2,h3⟩
 ·exact .inr ⟨h1,h2.to hc⟩
theorem ColB.to {w0 w w' : World} {G : Nat} {gs : List Reg} (h : ColB w0 w G gs) (hc : Calm w w') : ColB w0 w' G gs:=by
 rcases h with ⟨v,zs,h1,h2,h3⟩ | ⟨h1,h2⟩
 ·exact .inl ⟨v,zs,h1.calm hc,h2,h3⟩
 ·exact .inr ⟨h1,h2.to hc⟩
theorem ColA.lt {w0 w : World} {G : Nat} {es : List Ent} (h : ColA w0 w G es) : G < w.heap.size:=by
 rcases h with ⟨v,zs,h1,_⟩ | ⟨_,h2⟩
 ·exact h1.lt
 ·exact h2.lt
theorem ColB.lt {w0 w : World} {G : Nat} {gs : List Reg} (h : ColB w0 w G gs) : G < w.heap.size:=by
 rcases h with ⟨v,zs,h1,_⟩ | ⟨_,h2⟩
 ·exact h1.lt
 ·exact h2.lt
theorem ColA.calm {w0 w : World} {G : Nat} {es : List Ent} (h : ColA w0 w G es) : Calm w0 w:=by
 rcases h with ⟨v,zs,h1,_⟩ | ⟨_,h2⟩
 ·exact h1.own.calm
 ·exact h2.calm
theorem ColB.calm {w0 w : World} {G : Nat} {gs : List Reg} (h : ColB w0 w G gs) : Calm w0 w:=by
 rcases h with ⟨v,zs,h1,_⟩ | ⟨_,h2⟩
 ·exact h1.own.calm
 ·exact h2.calm
set_option maxHeartbeats 4000000 in
theorem addE_full (w0 w : World) (G : Nat) (A : Option Addr) (c : Nat) (bv : Bool) (LA RA HA : Option Addr) (nl lc nr rc hn hcap : Nat) (lr rr : Bool) (h0 : Calm w0 w) (hlo : w0.heap.size ≤ G) (hk : ∃ cs,w.heap[G]? = some (.cells cs 47 (0,0))) (k0 : w.cell? ⟨G,0,none⟩ = some (.slice A 32 c)) (k1 : w.cell? ⟨G,1,none⟩ = some (.bool bv)) :
  Calls Tryz.prog 55 #[.pointer (some ⟨G,0,none⟩),entV LA RA HA nl lc nr rc hn hcap lr rr] w fun e w'=>e = .returned (.tuple #[]) ∧ ColFull 47 w0 w' G ∧ FrB w w' (G + 1):=by
 obtain ⟨w1,hw1⟩ : ∃ w1,w1 = w.alloc (.cells #[.slice LA nl lc,.bool lr,.slice RA nr rc,.bool rr,.slice HA hn hcap] 43):=⟨_,rfl⟩
 have hc1 : Calm w w1:=by rw [hw1];exact (Calm.refl _).alloc _
 have HD:=Lib.hid (colFull_of h0 hlo hk k0 k1 (Calm.refl w))
 have HW:=Lib.hid hw1
 have hlt : G < w.heap.size:=by
  obtain ⟨cs,hh⟩:=hk
  exact heap_lt hh
 have f1 : w.frozen? ⟨G,1,none⟩ = false:=by
  obtain ⟨cs,hh⟩:=hk
  exact frozen_of_row w G 1 cs _ hh
 clear hw1 hc1 h0 hlo hk
 go_enter Tryz.func55,Tryz.ntmps55
 go_wp2_with fail
 exact bodyPost_ret (v:=.tuple #[]) (results_none rfl _ _ _) rfl ⟨rfl,HD.out.1.to ((Calm.refl _).alloc _),HD.out.2.calm ((Calm.refl _).alloc _) (by simp)⟩
theorem addE_a (w0 wq w : World) (G : Nat) (es : List Ent) (z : NewE) (nl nr hn : Nat) (lr rr : Bool) (h : ColA w0 wq G es) (hq : Calm wq w) (hz : EntN w (G + 1) z) (hnl : z.e.left.parts.length = nl) (hnr : z.e.right.parts.length = nr) (hhn : z.e.hs.length = hn) (hlr : z.e.left.rest = lr) (hrr : z.e.right.rest = rr) :
  Calls Tryz.prog 55 #[.pointer (some ⟨G,0,none⟩),entV z.LA z.RA z.HA nl z.lc nr z.rc hn z.hc lr rr] w fun e w'=>e = .returned (.tuple #[]) ∧ ColA w0 w' G (es ++ [z.e]) ∧ FrB w w' wq.heap.size:=by
 have hGq:=h.lt
 rcases h with ⟨v,zs,h1,rfl,h3⟩ | ⟨h1,h2⟩
 ·have hw:=h1.calm hq
  rw [List.length_map] at h3
  by_cases h32 : zs.length < 32
  ·refine (addE_c w0 w G v zs z nl nr hn lr rr hw hz h32 hnl hnr hhn hlr hrr).mono ?_
   rintro e w' ⟨he,v',hc,hf⟩
   refine ⟨he,.inl ⟨v',_,hc,by rw [List.map_append];rfl,by rw [List.length_append,List.length_map];simp only [List.length_cons,List.length_nil];omega⟩,fun b hb hbs=>hf b hbs (by omega) (fun e=>?_)⟩
   have:=h1.own.blk_lt e
   omega
  ·have h32' : zs.length = 32:=by omega
   obtain ⟨A,c,rfl,_,_,_⟩:=hw.shape
   rw [h32'] at hw
   refine (addE_full w0 w G A c false z.LA z.RA z.HA nl z.lc nr z.rc hn z.hc lr rr hw.own.calm hw.lo hw.kind hw.c0 hw.c1).mono ?_
   rintro e w' ⟨he,hc,hf⟩
   refine ⟨he,.inr ⟨by rw [List.length_append,List.length_map,h32'];simp,hc⟩,fun b hb hbs=>hf b (by omega) hbs⟩
 ·have hw:=h2.to hq
  obtain ⟨A,c,k0⟩:=hw.c0
  refine (addE_full w0 w G A c true z.LA z.RA z.HA nl z.lc nr z.rc hn z.hc lr rr hw.calm hw.lo hw.kind k0 hw.c1).mono ?_
  rintro e w' ⟨he,hc,hf⟩
  refine ⟨he,.inr ⟨by rw [List.length_append];omega,hc⟩,fun b hb hbs=>hf b (by omega) hbs⟩
def ResE (w0 : World) (es : List Ent) (e : Ending) (w' : World) : Prop:=if 32 < es.length then e = .returned (.tuple #[.slice none 0 0,.int .i64 72]) else
 ∃ A c,e = .returned (.tuple #[.slice A es.length c,.int .i64 0]) ∧ es.length ≤ c ∧ c ≤ 9223372036854775807 ∧ ∃ zs : List NewE,zs.map (·.e) = es ∧ ReadX encE 5 w' A zs ∧ ∀ z ∈ zs,EntN w' w0.heap.size z
theorem resultE_a (w0 w : World) (G : Nat) (es : List Ent) (h : ColA w0 w G es) : Calls Tryz.prog 26 #[.pointer (some ⟨G,0,none⟩)] w fun e w'=>ResE w0 es e w' ∧ Calm w0 w':=by
 unfold ResE
 rcases h with ⟨v,zs,h1,rfl,h3⟩ | ⟨h1,h2⟩
 ·simp only [show ¬ 32 < (List.map (fun x : NewE=>x.e) zs).length from by omega,if_false]
  obtain ⟨A,c,hv,g1,g2,g3⟩:=h1.shape
  refine (resultE_c G v w h1.c0 h1.c1 A zs.length c hv).mono ?_
  rintro e w' ⟨rfl,rfl⟩
  rw [List.length_map]
  exact ⟨⟨A,c,rfl,g1,g2,zs,rfl,g3,fun z hz=>(h1.each z hz).mono (by have:=h1.lo;omega)⟩,h1.own.calm⟩
 ·simp only [if_pos h1]
  refine (resultE_full G w h2.c1).mono ?_
  rintro e w' ⟨rfl,rfl⟩
  exact ⟨rfl,h2.calm⟩
end Go.Proofs.YtnlnclefedohkaaGreatDoor
