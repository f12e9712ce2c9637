/- What the functions on mappings hand back: entries and regions of the call's own. -/
import Derived.Deep.RegionLaw
import Derived.Test.YtdcdabbepnahnaaGreatDoorZEntM
import Derived.Test.YtdcdabbepnahnaaGreatDoorZRegB
import Derived.Test.YtdcdabbepnahnaaGreatDoorZMapA
import Derived.Test.YtdcdabbepnahnaaGreatDoorZRowG
import Derived.Test.YtdcdabbepnahnaaGreatDoorZMapO
import Derived.Test.YtdcdabbepnahnaaGreatDoorZCopyP
import Derived.Test.YtdcdabbepnahnaaGreatDoorZMapMem
set_option linter.unusedVariables false
set_option linter.unusedSimpArgs false
namespace Go.Proofs.YtdcdabbepnahnaaGreatDoor
open Go Go.RowKit Sy

theorem OwnX.putE {α : Type} {enc : α → List Value} {K : Nat} {T : TypeId} {w0 w : World} {v : Value} {l : List α} (h : OwnX enc K T w0 w v l) {p : Addr} (u : Value) (hge : w0.heap.size ≤ p.block) (hne : some p.block ≠ v.ownBlock) : OwnX enc K T w0 (w.setCell p u) v l:=by
 refine ⟨Below.setCell h.calm hge _,h.own.1,?_⟩
 rcases h.own.2 with h2 | ⟨g,cap,cur,hv,hg,hh,r⟩
 ·exact .inl h2
 ·refine .inr ⟨g,cap,cur,hv,hg,?_,r⟩
  rw [Deep.blk_setCell_other _ _ _ _ (fun e=>hne (by rw [← e,hv];rfl))]
  exact hh
theorem results_none {fn : Func} (h : fn.results = #[]) (tmps : Array Value) (P : Program) (w : World) : (results fn tmps).run P w = .ok (.tuple #[]) w:=by
 simp only [results,h]
 simp [Sem.run_bind,Result.andThen]
theorem EntN.set {w : World} {B : Nat} {x : NewE} (h : EntN w B x) {p : Addr} (u : Value) (hp : p.block < B) : EntN (w.setCell p u) B x:=⟨h.l.set u hp,h.r.set u hp,h.h.set u hp,h.few⟩
structure ColE (w0 w : World) (G : Nat) (v : Value) (zs : List NewE) : Prop where
 own : OwnX encE 5 73 w0 w v zs
 lo : w0.heap.size ≤ G
 kind : ∃ cs,w.heap[G]? = some (.cells cs 100 (0,0))
 c0 : w.cell? ⟨G,0,none⟩ = some v
 c1 : w.cell? ⟨G,1,none⟩ = some (.bool false)
 each : ∀ z ∈ zs,EntN w (G + 1) z
theorem ColE.lt {w0 w : World} {G : Nat} {v : Value} {zs : List NewE} (h : ColE w0 w G v zs) : G < w.heap.size:=by
 obtain ⟨cs,hh⟩:=h.kind
 exact heap_lt hh
theorem ColE.f {w0 w : World} {G : Nat} {v : Value} {zs : List NewE} (h : ColE w0 w G v zs) (o : Nat) : w.frozen? ⟨G,o,none⟩ = false:=by
 obtain ⟨cs,hh⟩:=h.kind
 exact frozen_of_row w G o cs _ hh
theorem ColE.calm {w0 w w' : World} {G : Nat} {v : Value} {zs : List NewE} (h : ColE w0 w G v zs) (hc : Calm w w') : ColE w0 w' G v zs:=
 ⟨h.own.to hc,h.lo,by obtain ⟨cs,hh⟩:=h.kind;exact ⟨cs,(hc.block _ h.lt).trans hh⟩,hc.at_ h.c0 h.lt,hc.at_ h.c1 h.lt,fun z hz=>(h.each z hz).calm hc⟩
theorem ColE.new {w0 w : World} (hc : Calm w0 w) : ColE w0 (w.alloc (.cells #[.slice none 0 0,.bool false] 100)) w.heap.size (.slice none 0 0) []:=
 ⟨OwnX.nil (hc.alloc _),hc.size,⟨_,heap_alloc_new w _⟩,by simp [go_sem],by simp [go_sem],fun z hz=>by cases hz⟩
theorem ColE.ne {w0 w : World} {G : Nat} {v : Value} {zs : List NewE} (h : ColE w0 w G v zs) : some G ≠ v.ownBlock:=h.own.kindne (by decide) h.kind
theorem ColE.add {w0 w w2 w3 : World} {G : Nat} {v v' : Value} {zs : List NewE} {z : NewE} (h : ColE w0 w G v zs) (hz : EntN w (G + 1) z) (hc : Calm w w2) (hown : OwnX encE 5 73 w0 w3 v' (zs ++ [z])) (hg : w2.grownBy w3 v.ownBlock) : ColE w0 (w3.setCell ⟨G,0,none⟩ v') G v' (zs ++ [z]):=by
 have h2:=h.calm hc
 have hb:=hg.block G h2.lt h2.ne
 obtain ⟨cs,hh⟩:=h2.kind
 have hh3 : w3.heap[G]? = some (.cells cs 100 (0,0)):=hb.trans hh
 have k0 : w3.cell? ⟨G,0,none⟩ = some v:=(World.cell?_of_block (a:=⟨G,0,none⟩) hb).trans h2.c0
 refine ⟨hown.putE v' h.lo (hown.kindne (by decide) ⟨cs,hh3⟩),h.lo,⟨cs.setIfInBounds 0 v',by simp [World.setCell,Array.getElem?_modify,hh3]⟩,World.cell?_setCell_same' _ _ _ (by rw [k0];rfl),(World.cell?_setCell_other _ _ _ _ (by simp)).trans ((World.cell?_of_block (a:=⟨G,1,none⟩) hb).trans h2.c1),fun y hy=>?_⟩
 have hy3 : EntN w3 (G + 1) y:=by
  rcases List.mem_append.1 hy with hy | hy
  ·exact (h2.each y hy).own (by decide) (by decide) h2.own.own hg
  ·rw [List.mem_singleton] at hy
   subst hy
   exact (hz.calm hc).own (by decide) (by decide) h2.own.own hg
 exact hy3.set v' (Nat.lt_succ_self _)
theorem ColE.after {w0 w w2 w3 : World} {G : Nat} {v : Value} {zs : List NewE} (h : ColE w0 w G v zs) (hc : Calm w w2) (hg : w2.grownBy w3 v.ownBlock) : w3.cell? ⟨G,0,none⟩ = some v ∧ w3.frozen? ⟨G,0,none⟩ = false:=by
 have h2:=h.calm hc
 have hb:=hg.block G h2.lt h2.ne
 exact ⟨(World.cell?_of_block (a:=⟨G,0,none⟩) hb).trans h2.c0,(World.frozen?_of_block (a:=⟨G,0,none⟩) hb).trans (h2.f 0)⟩
theorem ColE.shape {w0 w : World} {G : Nat} {v : Value} {zs : List NewE} (h : ColE w0 w G v zs) : ∃ A c,v = .slice A zs.length c ∧ zs.length ≤ c ∧ c ≤ 9223372036854775807 ∧ ReadX encE 5 w A zs:=by
 rcases h.own.row encE_len with ⟨rfl,rfl⟩ | ⟨g,c,rfl,h1,h2,_,hr⟩
 ·exact ⟨none,0,rfl,Nat.le_refl _,by omega,fun h=>absurd rfl h⟩
 ·exact ⟨_,c,rfl,h1,h2,fun _=>⟨g,0,rfl,hr.lt,fun k x hk i u hu=>hr.cell k x hk i u hu⟩⟩
def FrE (w w' : World) (G : Nat) (v : Value) : Prop:=∀ b,b < w.heap.size → b ≠ G → some b ≠ v.ownBlock → w'.heap[b]? = w.heap[b]?
theorem FrE.of {w w2 w3 : World} {G : Nat} {v u : Value} (hc : Calm w w2) (hg : w2.grownBy w3 v.ownBlock) : FrE w (w3.setCell ⟨G,0,none⟩ u) G v:=fun b hb hbG hbv=>by
 have h1:=hg.block b (Nat.lt_of_lt_of_le hb hc.size) hbv
 rw [Deep.blk_setCell_other _ _ _ _ (fun e=>hbG (by rw [e]))]
 exact h1.trans (hc.block b hb)
end Go.Proofs.YtdcdabbepnahnaaGreatDoor
set_option linter.unusedVariables false
set_option linter.unusedSimpArgs false
namespace Go.Proofs.YtdcdabbepnahnaaGreatDoor
open Go Go.RowKit

theorem resultE_c (g : Nat) (v : Value) (w : World) (k0 : w.cell? ⟨g,0,none⟩ = some v) (k1 : w.cell? ⟨g,1,none⟩ = some (.bool false)) (A : Option Addr) (n c : Nat) (hv : v = .slice A n c) :
  Calls Tryz.prog 50 #[.pointer (some ⟨g,0,none⟩)] w fun e w'=>e = .returned (.tuple #[.slice A n c,.int .i64 0]) ∧ w = w':=by
 subst hv
 go_enter Tryz.func50,Tryz.ntmps50
 go_wp2_with fail
 go_ret2
 exact ⟨rfl,rfl⟩
theorem resultE_full (g : Nat) (w : World) (k1 : w.cell? ⟨g,1,none⟩ = some (.bool true)) :
  Calls Tryz.prog 50 #[.pointer (some ⟨g,0,none⟩)] w fun e w'=>e = .returned (.tuple #[.slice none 0 0,.int .i64 72]) ∧ w = w':=by
 go_enter Tryz.func50,Tryz.ntmps50
 go_wp2_with fail
 go_ret2
 exact ⟨rfl,rfl⟩
end Go.Proofs.YtdcdabbepnahnaaGreatDoor
set_option linter.unusedVariables false
set_option linter.unusedSimpArgs false
namespace Go.Proofs.YtdcdabbepnahnaaGreatDoor
open Go Go.RowKit Sy

end Go.Proofs.YtdcdabbepnahnaaGreatDoor
set_option linter.unusedVariables false
set_option linter.unusedSimpArgs false
namespace Go.Proofs.YtdcdabbepnahnaaGreatDoor
open Go Go.RowKit Sy
def FrB (w w' : World) (B : Nat) : Prop:=∀ b,B ≤ b → b < w.heap.size → w'.heap[b]? = w.heap[b]?
theorem FrB.calm {w w' w2 : World} {B : Nat} (h : FrB w w' B) (hc : Calm w' w2) (hs : w.heap.size ≤ w'.heap.size) : FrB w w2 B:=fun b hb hbs=>(hc.block b (Nat.lt_of_lt_of_le hbs hs)).trans (h b hb hbs)
structure ColFull (T : TypeId) (w0 w : World) (G : Nat) : Prop where
 calm : Calm w0 w
 lo : w0.heap.size ≤ G
 kind : ∃ cs,w.heap[G]? = some (.cells cs T (0,0))
 c0 : ∃ A c,w.cell? ⟨G,0,none⟩ = some (.slice A 32 c)
 c1 : w.cell? ⟨G,1,none⟩ = some (.bool true)
theorem ColFull.lt {T : TypeId} {w0 w : World} {G : Nat} (h : ColFull T w0 w G) : G < w.heap.size:=by
 obtain ⟨cs,hh⟩:=h.kind
 exact heap_lt hh
theorem ColFull.to {T : TypeId} {w0 w w' : World} {G : Nat} (h : ColFull T w0 w G) (hc : Calm w w') : ColFull T w0 w' G:=
 ⟨h.calm.trans hc,h.lo,by obtain ⟨cs,hh⟩:=h.kind;exact ⟨cs,(hc.block _ h.lt).trans hh⟩,by obtain ⟨A,c,k⟩:=h.c0;exact ⟨A,c,hc.at_ k h.lt⟩,hc.at_ h.c1 h.lt⟩
theorem colFull_of {T : TypeId} {w0 w w1 : World} {G c : Nat} {A : Option Addr} {v1 : Value} (h0 : Calm w0 w) (hlo : w0.heap.size ≤ G) (hk : ∃ cs,w.heap[G]? = some (.cells cs T (0,0))) (k0 : w.cell? ⟨G,0,none⟩ = some (.slice A 32 c)) (k1 : w.cell? ⟨G,1,none⟩ = some v1) (hc : Calm w w1) : ColFull T w0 (w1.setCell ⟨G,1,none⟩ (.bool true)) G ∧ FrB w (w1.setCell ⟨G,1,none⟩ (.bool true)) (G + 1):=by
 obtain ⟨cs,hh⟩:=hk
 have hlt:=heap_lt hh
 have hh1 : w1.heap[G]? = some (.cells cs T (0,0)):=(hc.block _ hlt).trans hh
 refine ⟨⟨Below.setCell (h0.trans hc) hlo _,hlo,⟨cs.setIfInBounds 1 (.bool true),by simp [World.setCell,Array.getElem?_modify,hh1]⟩,⟨A,c,(World.cell?_setCell_other _ _ _ _ (by simp)).trans (hc.at_ k0 hlt)⟩,World.cell?_setCell_same' _ _ _ (by rw [hc.at_ k1 hlt];rfl)⟩,fun b hb hbs=>?_⟩
 rw [Deep.blk_setCell_other _ _ _ _ (fun e=>absurd (show G = b from e.symm) (by omega))]
 exact hc.block b hbs
def ColA (w0 w : World) (G : Nat) (es : List Ent) : Prop:=(∃ v zs,ColE w0 w G v zs ∧ zs.map (·.e) = es ∧ es.length ≤ 32) ∨ (32 < es.length ∧ ColFull 100 w0 w G)
theorem ColA.to {w0 w w' : World} {G : Nat} {es : List Ent} (h : ColA w0 w G es) (hc : Calm w w') : ColA w0 w' G es:=by
 rcases h with ⟨v,zs,h1,h2,h3⟩ | ⟨h1,h2⟩
 ·exact .inl ⟨v,zs,h1.calm hc,h2,h3⟩
 ·exact .inr ⟨h1,h2.to hc⟩
theorem ColA.lt {w0 w : World} {G : Nat} {es : List Ent} (h : ColA w0 w G es) : G < w.heap.size:=by
 rcases h with ⟨v,zs,h1,_⟩ | ⟨_,h2⟩
 ·exact h1.lt
 ·exact h2.lt
theorem ColA.calm {w0 w : World} {G : Nat} {es : List Ent} (h : ColA w0 w G es) : Calm w0 w:=by
 rcases h with ⟨v,zs,h1,_⟩ | ⟨_,h2⟩
 ·exact h1.own.calm
 ·exact h2.calm
end Go.Proofs.YtdcdabbepnahnaaGreatDoor
set_option linter.unusedVariables false
set_option linter.unusedSimpArgs false
namespace Go.Proofs.YtdcdabbepnahnaaGreatDoor
open Go Go.RowKit Sy
def RdEnd (b : Pat) (ps : List Pat) (B : Nat) (e : Ending) (w' : World) : Prop:=if 64 < (redL b ps).length then e = .returned (.tuple #[.agg #[.slice none 0 0,.bool false,.slice none 0 0],.bool false,.int .i64 72]) else
 ∃ A2 c2 HA2 hc2,e = .returned (.tuple #[.agg #[.slice A2 b.parts.length c2,.bool b.rest,.slice HA2 (redL b ps).length hc2],.bool (!(leastLen b (redL b ps) == 0)),.int .i64 0]) ∧ NewS w' B A2 c2 b.parts ∧ PatsN w' B HA2 hc2 (redL b ps)
def PutEnd (w0 w' : World) (G : Nat) (es : List Ent) (n : Rule) (ps : List Pat) (e : Ending) : Prop:=match putH n ps with
 |none=>e = .returned (.int .i64 72) ∧ ColA w0 w' G es
 |some none=>e = .returned (.int .i64 0) ∧ ColA w0 w' G es
 |some (some x)=>e = .returned (.int .i64 0) ∧ ColA w0 w' G (es ++ [x])
theorem putH_far {n : Rule} {ps : List Pat} (h : 64 < (redL n.left ps).length) : putH n ps = none:=by rw [putH,if_pos h]
theorem putH_void {n : Rule} {ps : List Pat} (h : ¬ 64 < (redL n.left ps).length) (h2 : leastLen n.left (redL n.left ps) = 0) : putH n ps = some none:=by rw [putH,if_neg h,if_pos h2]
theorem putH_one {n : Rule} {ps : List Pat} (h : ¬ 64 < (redL n.left ps).length) (h2 : leastLen n.left (redL n.left ps) ≠ 0) : putH n ps = some (some ⟨n.left,n.right,redL n.left ps⟩):=by rw [putH,if_neg h,if_neg h2]
end Go.Proofs.YtdcdabbepnahnaaGreatDoor
set_option linter.unusedVariables false
set_option linter.unusedSimpArgs false
namespace Go.Proofs.YtdcdabbepnahnaaGreatDoor
open Go Go.RowKit Sy
def EntOut (es : List Ent) (er : Int) (B : Nat) (e : Ending) (w' : World) : Prop:=∃ A c,e = .returned (.tuple #[.slice A es.length c,.int .i64 er]) ∧ es.length ≤ c ∧ c ≤ 9223372036854775807 ∧ ∃ zs : List NewE,zs.map (·.e) = es ∧ ReadX encE 5 w' A zs ∧ ∀ z ∈ zs,EntN w' B z
theorem entOut_err (er : Int) (B : Nat) (w' : World) : EntOut [] er B (.returned (.tuple #[.slice none 0 0,.int .i64 er])) w':=⟨none,0,rfl,Nat.le_refl _,by omega,[],rfl,fun h=>absurd rfl h,fun z hz=>by cases hz⟩
theorem PatsR.toU {w : World} {A : Option Addr} {ps : List Pat} (h : PatsR w A ps) : PatsU w A ps:=
 ⟨by have:=h.len;omega,fun h0=>by
  obtain ⟨b,o,hA,hb,hk⟩:=h.at_ h0
  refine ⟨b,o,hA,hb,fun k p hp=>?_⟩
  obtain ⟨Ak,ck,g1,g2,g3,g4,g5⟩:=hk k p hp
  exact ⟨Ak,ck,g1,g2,g3,g4,g5.toU⟩⟩
theorem EntN.toA {w : World} {B : Nat} {z : NewE} (h : EntN w B z) : EntA w z:=
 ⟨h.l.a.r.toU,h.r.a.r.toU,PatsR.toU (h.h.reads h.few),h.l.a.room,h.r.a.room,h.h.room,h.l.a.cap,h.r.a.cap,h.h.cap⟩
theorem entsA_of {w : World} {A : Option Addr} {es : List Ent} {zs : List NewE} {B : Nat} (h1 : zs.map (·.e) = es) (h2 : ReadX encE 5 w A zs) (h3 : ∀ z ∈ zs,EntN w B z) (hl : es.length ≤ 1048576) : EntsA w A es:=⟨hl,zs,h1,h2,fun z hz=>(h3 z hz).toA⟩
theorem colA_new {w0 w : World} (hc : Calm w0 w) : ColA w0 (w.alloc (.cells #[.slice none 0 0,.bool false] 100)) w.heap.size []:=.inl ⟨_,_,ColE.new hc,rfl,Nat.zero_le _⟩
theorem PutEnd.some {w0 w' : World} {G : Nat} {es : List Ent} {n : Rule} {ps : List Pat} {e : Ending} {o : Option Ent} (h : PutEnd w0 w' G es n ps e) (ho : putH n ps = some o) : e = .returned (.int .i64 0) ∧ ColA w0 w' G (es ++ o.toList):=by
 unfold PutEnd at h
 rw [ho] at h
 cases o with
 |none=>exact ⟨h.1,by simpa using h.2⟩
 |some x=>exact h
theorem PutEnd.none {w0 w' : World} {G : Nat} {es : List Ent} {n : Rule} {ps : List Pat} {e : Ending} (h : PutEnd w0 w' G es n ps e) (ho : putH n ps = none) : e = .returned (.int .i64 72) ∧ ColA w0 w' G es:=by
 unfold PutEnd at h
 rw [ho] at h
 exact h
end Go.Proofs.YtdcdabbepnahnaaGreatDoor
