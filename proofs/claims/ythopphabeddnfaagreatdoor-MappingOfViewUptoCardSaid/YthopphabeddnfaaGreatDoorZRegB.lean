/- A region's three cells in a block of its own kind. -/
import Derived.Test.YthopphabeddnfaaGreatDoorZPatsB
import Derived.Test.YthopphabeddnfaaGreatDoorZBindW
set_option linter.unusedVariables false
set_option linter.unusedSimpArgs false
namespace Go.Proofs.YthopphabeddnfaaGreatDoor
open Go Go.RowKit Sy
structure RgB (w : World) (G : Nat) (v0 v1 v2 : Value) : Prop where
 kind : ∃ cs,w.heap[G]? = some (.cells cs 48 (0,0))
 c0 : w.cell? ⟨G,0,none⟩ = some v0
 c1 : w.cell? ⟨G,1,none⟩ = some v1
 c2 : w.cell? ⟨G,2,none⟩ = some v2
theorem RgB.lt {w : World} {G : Nat} {v0 v1 v2 : Value} (h : RgB w G v0 v1 v2) : G < w.heap.size:=by
 obtain ⟨cs,hh⟩:=h.kind
 exact heap_lt hh
theorem RgB.f {w : World} {G : Nat} {v0 v1 v2 : Value} (h : RgB w G v0 v1 v2) (o : Nat) : w.frozen? ⟨G,o,none⟩ = false:=by
 obtain ⟨cs,hh⟩:=h.kind
 exact frozen_of_row w G o cs _ hh
theorem RgB.block {w w' : World} {G : Nat} {v0 v1 v2 : Value} (h : RgB w G v0 v1 v2) (hb : w'.heap[G]? = w.heap[G]?) : RgB w' G v0 v1 v2:=by
 obtain ⟨cs,hh⟩:=h.kind
 exact ⟨⟨cs,hb.trans hh⟩,(World.cell?_of_block (a:=⟨G,0,none⟩) hb).trans h.c0,(World.cell?_of_block (a:=⟨G,1,none⟩) hb).trans h.c1,(World.cell?_of_block (a:=⟨G,2,none⟩) hb).trans h.c2⟩
theorem RgB.calm {w w' : World} {G : Nat} {v0 v1 v2 : Value} (h : RgB w G v0 v1 v2) (hc : Calm w w') : RgB w' G v0 v1 v2:=h.block (hc.block _ h.lt)
theorem RgB.new (w : World) (v0 v1 v2 : Value) : RgB (w.alloc (.cells #[v0,v1,v2] 48)) w.heap.size v0 v1 v2:=
 ⟨⟨_,heap_alloc_new w _⟩,by simp [go_sem],by simp [go_sem],by simp [go_sem]⟩
theorem RgB.put2 {w : World} {G : Nat} {v0 v1 v2 : Value} (h : RgB w G v0 v1 v2) (u : Value) : RgB (w.setCell ⟨G,2,none⟩ u) G v0 v1 u:=by
 obtain ⟨cs,hh⟩:=h.kind
 exact ⟨⟨cs.setIfInBounds 2 u,by simp [World.setCell,Array.getElem?_modify,hh]⟩,(World.cell?_setCell_other _ _ _ _ (by simp)).trans h.c0,(World.cell?_setCell_other _ _ _ _ (by simp)).trans h.c1,World.cell?_setCell_same' _ _ _ (by rw [h.c2];rfl)⟩
theorem RgB.own {w w' w0 : World} {G : Nat} {v0 v1 v2 v : Value} {l : List NewP} (h : RgB w G v0 v1 v2) (hown : OwnX encP 2 37 w0 w v l) (hg : w.grownBy w' v.ownBlock) : RgB w' G v0 v1 v2:=
 h.block (hg.block G h.lt (hown.kindne (by decide) h.kind))
theorem RgB.set3 {w : World} {G : Nat} {v0 v1 v2 : Value} (h : RgB w G v0 v1 v2) (u0 u1 u2 : Value) : RgB (((w.setCell ⟨G,0,none⟩ u0).setCell ⟨G,1,none⟩ u1).setCell ⟨G,2,none⟩ u2) G u0 u1 u2:=by
 obtain ⟨cs,hh⟩:=h.kind
 refine ⟨⟨((cs.setIfInBounds 0 u0).setIfInBounds 1 u1).setIfInBounds 2 u2,by simp [World.setCell,Array.getElem?_modify,hh]⟩,?_,?_,?_⟩
 ·rw [World.cell?_setCell_other _ _ _ _ (by simp),World.cell?_setCell_other _ _ _ _ (by simp)]
  exact World.cell?_setCell_same' _ _ _ (by rw [h.c0];rfl)
 ·rw [World.cell?_setCell_other _ _ _ _ (by simp)]
  exact World.cell?_setCell_same' _ _ _ (by rw [World.cell?_setCell_other _ _ _ _ (by simp),h.c1];rfl)
 ·exact World.cell?_setCell_same' _ _ _ (by rw [World.cell?_setCell_other _ _ _ _ (by simp),World.cell?_setCell_other _ _ _ _ (by simp),h.c2];rfl)
end Go.Proofs.YthopphabeddnfaaGreatDoor
