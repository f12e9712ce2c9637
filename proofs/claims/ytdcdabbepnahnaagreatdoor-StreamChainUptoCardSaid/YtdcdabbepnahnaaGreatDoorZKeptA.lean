/- A collection of entries stays one where a block that is no cells is turned: what a range over a function asks of what its rounds keep. -/
import Derived.RangeFuncNested
import Derived.Test.YtdcdabbepnahnaaGreatDoorZOutM
set_option linter.unusedVariables false
set_option linter.unusedSimpArgs false
namespace Go.Proofs.YtdcdabbepnahnaaGreatDoor
open Go Go.RowKit Sy
structure Turn (A B : World) : Prop where
 size : A.heap.size ≤ B.heap.size
 cells : ∀ (k : Nat) cs T x,A.heap[k]? = some (.cells cs T x) → B.heap[k]? = some (.cells cs T x)
theorem Turn.of {A B : World} {row : Option Nat} (hg : A.grownBy B row) (hr : ∀ r,row = some r → ∃ o : Obj,A.heap[r]? = some o ∧ o.isCells = false) : Turn A B:=
 ⟨hg.size,fun k cs T x h=>(hg.block k (heap_lt h) (fun e=>by obtain ⟨o,ho,hc⟩:=hr k e.symm;rw [h] at ho;cases ho;cases hc)).trans h⟩
theorem Turn.cell {A B : World} (h : Turn A B) {p : Addr} {v : Value} (hc : A.cell? p = some v) : B.cell? p = some v:=by
 have hb : ∃ cs T x,A.heap[p.block]? = some (.cells cs T x):=by
  unfold World.cell? at hc
  split at hc
  ·rename_i cs T x hh
   exact ⟨cs,T,x,hh⟩
  ·cases hc
 obtain ⟨cs,T,x,hh⟩:=hb
 rw [World.cell?_of_block ((h.cells _ _ _ _ hh).trans hh.symm)]
 exact hc
theorem StrsU.turn {A B : World} {ad : Option Addr} {ls : List Str} (h : StrsU A ad ls) (t : Turn A B) : StrsU B ad ls:=⟨h.len,h.each,fun h0=>by
 obtain ⟨b,o,hA,hb,hk⟩:=h.at_ h0
 exact ⟨b,o,hA,Nat.lt_of_lt_of_le hb t.size,fun k l hl=>t.cell (hk k l hl)⟩⟩
theorem NewS.turn {A B : World} {B0 c : Nat} {ad : Option Addr} {ls : List Str} (h : NewS A B0 ad c ls) (t : Turn A B) : NewS B B0 ad c ls:=⟨h.u.turn t,h.room,h.cap,h.new,fun a e=>by
 obtain ⟨cs,hh⟩:=h.row a e
 exact ⟨cs,t.cells _ _ _ _ hh⟩⟩
theorem SmallN.turn {A B : World} {B0 : Nat} {x : NewP} (h : SmallN A B0 x) (t : Turn A B) : SmallN B B0 x:=⟨h.new.turn t,h.few,h.each⟩
theorem RowX.turn {α : Type} {enc : α → List Value} {K : Nat} {T : TypeId} {A B : World} {g o : Nat} {l : List α} (h : RowX enc K T A g o l) (t : Turn A B) : RowX enc K T B g o l:=⟨by
 obtain ⟨cs,hh⟩:=h.kind
 exact ⟨cs,t.cells _ _ _ _ hh⟩,fun k x hx i u hu=>t.cell (h.cell k x hx i u hu)⟩
theorem PatsN.turn {A B : World} {B0 c : Nat} {ad : Option Addr} {ps : List Pat} (h : PatsN A B0 ad c ps) (t : Turn A B) : PatsN B B0 ad c ps:=by
 obtain ⟨l,h1,h2,h3⟩:=h.ex
 exact ⟨⟨l,h1,h2.imp id (fun ⟨g,a,b,r⟩=>⟨g,a,b,r.turn t⟩),fun x hx=>(h3 x hx).turn t⟩,h.room,h.cap⟩
theorem EntN.turn {A B : World} {B0 : Nat} {x : NewE} (h : EntN A B0 x) (t : Turn A B) : EntN B B0 x:=⟨h.l.turn t,h.r.turn t,h.h.turn t,h.few⟩
theorem owns_turn {A B : World} {base : Nat} {e : TypeId} {size n : Nat} {v : Value} {xs : List Value} (h : A.ownsRow base e size v n xs) (t : Turn A B) : B.ownsRow base e size v n xs:=by
 obtain ⟨h1,h2⟩:=h
 refine ⟨h1,h2.imp id ?_⟩
 rintro ⟨g,cap,cur,hv,hg,hh,r⟩
 exact ⟨g,cap,cur,hv,hg,t.cells _ _ _ _ hh,r⟩
theorem OwnX.turn {α : Type} {enc : α → List Value} {K : Nat} {T : TypeId} {w0 A B : World} {v : Value} {l : List α} (h : OwnX enc K T w0 A v l) (t : Turn A B) (hc : Calm w0 B) : OwnX enc K T w0 B v l:=⟨hc,owns_turn h.own t⟩
theorem ColE.turn {w0 A B : World} {G : Nat} {v : Value} {zs : List NewE} (h : ColE w0 A G v zs) (t : Turn A B) (hc : Calm w0 B) : ColE w0 B G v zs:=
 ⟨h.own.turn t hc,h.lo,by obtain ⟨cs,hh⟩:=h.kind;exact ⟨cs,t.cells _ _ _ _ hh⟩,t.cell h.c0,t.cell h.c1,fun z hz=>(h.each z hz).turn t⟩
theorem ColFull.turn {T : TypeId} {w0 A B : World} {G : Nat} (h : ColFull T w0 A G) (t : Turn A B) (hc : Calm w0 B) : ColFull T w0 B G:=
 ⟨hc,h.lo,by obtain ⟨cs,hh⟩:=h.kind;exact ⟨cs,t.cells _ _ _ _ hh⟩,by obtain ⟨ad,c,k⟩:=h.c0;exact ⟨ad,c,t.cell k⟩,t.cell h.c1⟩
theorem ColA.turn {w0 A B : World} {G : Nat} {es : List Ent} (h : ColA w0 A G es) (t : Turn A B) (hc : Calm w0 B) : ColA w0 B G es:=by
 rcases h with ⟨v,zs,h1,h2,h3⟩ | ⟨h1,h2⟩
 ·exact .inl ⟨v,zs,h1.turn t hc,h2,h3⟩
 ·exact .inr ⟨h1,h2.turn t hc⟩
theorem colA_own {β : Type} (w1 : World) (G : Nat) (f : β → List Ent → Prop) {D : Nat} (hD : w1.heap.size ≤ D) : OwnFrom D (fun (s : β) W=>∃ out,f s out ∧ ColA w1 W G out):=fun s A B row ⟨out,hf,h⟩ hg hr=>
 ⟨out,hf,h.turn (Turn.of hg (fun r e=>(hr r e).2)) (ownFrom_below (β:=Unit) (Nat.le_refl _) hD () A B row h.calm hg hr)⟩
theorem cell_own {β : Type} (p : Addr) (f : β → Value) (D : Nat) : OwnFrom D (fun (s : β) W=>W.cell? p = some (f s)):=fun s A B row h hg hr=>(Turn.of hg (fun r e=>(hr r e).2)).cell h
end Go.Proofs.YtdcdabbepnahnaaGreatDoor
