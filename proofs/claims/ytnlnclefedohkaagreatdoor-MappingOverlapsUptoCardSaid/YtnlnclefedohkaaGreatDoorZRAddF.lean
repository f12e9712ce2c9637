/- Walk: the reference's add; where its row then lies. -/
import Derived.Test.YtnlnclefedohkaaGreatDoorZChainW
import Derived.Test.YtnlnclefedohkaaGreatDoorZRMChk
import Derived.Test.YtnlnclefedohkaaGreatDoorZRSimpW
import Derived.Test.YtnlnclefedohkaaGreatDoorZVoidB
import Derived.Test.YtnlnclefedohkaaGreatDoorZRCommon
import Derived.Test.YtnlnclefedohkaaGreatDoorZPutN
set_option linter.unusedVariables false
set_option linter.unusedSimpArgs false
namespace Go.Proofs.YtnlnclefedohkaaGreatDoor
open Go Go.RowKit Sy
def EntOutR (es : List Ent) (er : Int) (e : Ending) (w' : World) : Prop:=∃ A c,e = .returned (.tuple #[.slice A es.length c,.int .i64 er]) ∧ es.length ≤ c ∧ c ≤ 9223372036854775807 ∧ EntsR w' A es
theorem EntOut.r {es : List Ent} {er : Int} {B : Nat} {e : Ending} {w' : World} (h : EntOut es er B e w') : EntOutR es er e w':=by
 obtain ⟨A,c,h1,h2,h3,zs,h4,h5,h6⟩:=h
 exact ⟨A,c,h1,h2,h3,zs,h4,h5,fun z hz=>(h6 z hz).u⟩
structure GrU (w : World) (z : NewG) : Prop where
 b : PatA w z.A z.c z.g.b
 h : PatsR w z.HA z.g.hs
theorem GrU.calm {w w' : World} {z : NewG} (h : GrU w z) (hc : Calm w w') : GrU w' z:=⟨h.b.calm hc,h.h.calm hc⟩
def GrsR (w : World) (A : Option Addr) (gs : List Reg) : Prop:=∃ zs : List NewG,zs.map (·.g) = gs ∧ ReadX encG 3 w A zs ∧ ∀ z ∈ zs,GrU w z
theorem GrsR.calm {w w' : World} {A : Option Addr} {gs : List Reg} (h : GrsR w A gs) (hc : Calm w w') : GrsR w' A gs:=by
 obtain ⟨zs,h1,h2,h3⟩:=h
 exact ⟨zs,h1,h2.calm hc,fun z hz=>(h3 z hz).calm hc⟩
theorem GrsR.get {w : World} {A : Option Addr} {gs : List Reg} (h : GrsR w A gs) {k : Nat} (hk : k < gs.length) : ∃ (b o : Nat) (z : NewG),A = some ⟨b,o,none⟩ ∧ b < w.heap.size ∧ gs[k]? = some z.g ∧
  w.cell? ⟨b,o + k * 3,none⟩ = some (.slice z.A z.g.b.parts.length z.c) ∧ w.cell? ⟨b,o + k * 3 + 1,none⟩ = some (.bool z.g.b.rest) ∧ w.cell? ⟨b,o + k * 3 + 2,none⟩ = some (.slice z.HA z.g.hs.length z.hc) ∧ GrU w z:=by
 obtain ⟨zs,rfl,h2,h3⟩:=h
 rw [List.length_map] at hk
 obtain ⟨b,o,hA,hb,hc⟩:=h2 (fun e=>by rw [e] at hk;simp at hk)
 have hz:=List.getElem?_eq_getElem hk
 exact ⟨b,o,zs[k],hA,hb,by rw [List.getElem?_map,hz];rfl,hc k _ hz 0 _ rfl,hc k _ hz 1 _ rfl,hc k _ hz 2 _ rfl,h3 _ (List.mem_of_getElem? hz)⟩
def RegOutR (gs : List Reg) (er : Int) (e : Ending) (w' : World) : Prop:=∃ A c,e = .returned (.tuple #[.slice A gs.length c,.int .i64 er]) ∧ gs.length ≤ c ∧ c ≤ 9223372036854775807 ∧ GrsR w' A gs
theorem regOutR_err (er : Int) (w' : World) : RegOutR [] er (.returned (.tuple #[.slice none 0 0,.int .i64 er])) w':=⟨none,0,rfl,Nat.le_refl _,by omega,[],rfl,fun h=>absurd rfl h,fun z hz=>by cases hz⟩
theorem RegOut.r {gs : List Reg} {er : Int} {B : Nat} {e : Ending} {w' : World} (h : RegOut gs er B e w') (hg : ∀ g ∈ gs,gErr g = 0) : RegOutR gs er e w':=by
 obtain ⟨A,c,h1,h2,h3,zs,h4,h5,h6⟩:=h
 refine ⟨A,c,h1,h2,h3,zs,h4,h5,fun z hz=>?_⟩
 have hzg:=hg z.g (by rw [← h4];exact List.mem_map.2 ⟨z,hz,rfl⟩)
 have:=h6 z hz
 exact ⟨this.base.a,this.holes.reads (by have:=(gErr_zero hzg).2.2;omega)⟩
structure GrV (w0 w : World) (x : NewG) : Prop where
 b : PatA w0 x.A x.c x.g.b ∨ SmallN w w0.heap.size ⟨x.A,x.c,x.g.b⟩
 h : PatsN w w0.heap.size x.HA x.hc x.g.hs
 few : x.g.hs.length ≤ 16384
theorem GrV.calm {w0 w w' : World} {x : NewG} (h : GrV w0 w x) (hc : Calm w w') : GrV w0 w' x:=⟨h.b.imp id fun h=>h.calm hc,h.h.calm hc,h.few⟩
theorem GrV.own {w0 w w' : World} {x : NewG} (h : GrV w0 w x) {B0 n K : Nat} {v : Value} {T : TypeId} {xs : List Value} (hT : 40 ≠ T) (hS : 9 ≠ T) (hown : w.ownsRow B0 T K v n xs) (hg : w.grownBy w' v.ownBlock) : GrV w0 w' x:=
 ⟨h.b.imp id fun h=>h.own hS hown hg,h.h.own hT hS hown hg,h.few⟩
structure RowW (w0 wr : World) (v : Value) (out : List Reg) (zs : List NewG) : Prop where
 own : OwnX encG 3 68 w0 wr v zs
 is : zs.map (·.g) = out
 each : ∀ z ∈ zs,GrV w0 wr z
theorem RowW.nil {w0 w : World} (hc : Calm w0 w) : RowW w0 w (.slice none 0 0) [] []:=⟨OwnX.nil hc,rfl,fun z hz=>by cases hz⟩
theorem RowW.to {w0 w w' : World} {v : Value} {out : List Reg} {zs : List NewG} (h : RowW w0 w v out zs) (hc : Calm w w') : RowW w0 w' v out zs:=⟨h.own.to hc,h.is,fun z hz=>(h.each z hz).calm hc⟩
theorem RowW.len {w0 w : World} {v : Value} {out : List Reg} {zs : List NewG} (h : RowW w0 w v out zs) : zs.length = out.length:=by rw [← h.is,List.length_map]
theorem RowW.add {w0 w w2 w3 : World} {v v2 : Value} {out : List Reg} {zs : List NewG} {z : NewG} (h : RowW w0 w v out zs) (hc : Calm w w2) (hz : GrV w0 w2 z) (hg : w2.grownBy w3 v.ownBlock) (hown : OwnX encG 3 68 w0 w3 v2 (zs ++ [z])) : RowW w0 w3 v2 (out ++ [z.g]) (zs ++ [z]):=by
 refine ⟨hown,by rw [List.map_append,h.is];rfl,fun y hy=>?_⟩
 rcases List.mem_append.1 hy with hy | hy
 ·exact ((h.each y hy).calm hc).own (by decide) (by decide) (h.own.to hc).own hg
 ·rw [List.mem_singleton] at hy
  subst hy
  exact hz.own (by decide) (by decide) (h.own.to hc).own hg
theorem RowW.reads {w0 w : World} {v : Value} {out : List Reg} {zs : List NewG} (h : RowW w0 w v out zs) : ∃ A c,v = .slice A out.length c ∧ out.length ≤ c ∧ c ≤ 9223372036854775807 ∧ GrsR w A out:=by
 have hl:=h.len
 have hu : ∀ z ∈ zs,GrU w z:=fun z hz=>⟨(h.each z hz).b.elim (fun h1=>h1.calm h.own.calm) (fun h1=>h1.a),(h.each z hz).h.reads (h.each z hz).few⟩
 rcases h.own.row encG_len with ⟨rfl,h0⟩ | ⟨g,c,rfl,h1,h2,_,hr⟩
 ·subst h0
  have : out = []:=by rw [← h.is];rfl
  subst this
  exact ⟨none,0,rfl,Nat.le_refl _,by omega,[],rfl,fun h=>absurd rfl h,fun y hy=>by cases hy⟩
 ·rw [hl] at h1 ⊢
  exact ⟨_,c,rfl,h1,h2,zs,h.is,fun _=>⟨g,0,rfl,hr.lt,fun k x hk i u hu=>hr.cell k x hk i u hu⟩,hu⟩
end Go.Proofs.YtnlnclefedohkaaGreatDoor
set_option linter.unusedVariables false
set_option linter.unusedSimpArgs false
namespace Go.Proofs.YtnlnclefedohkaaGreatDoor
open Go Go.RowKit Sy

theorem FrB.grown {w w2 w3 : World} {B : Nat} {v : Value} (hc : Calm w w2) (hg : w2.grownBy w3 v.ownBlock) (hv : ∀ b,some b = v.ownBlock → b < B) : FrB w w3 B:=fun b hb hbs=>by
 have h1:=hg.block b (Nat.lt_of_lt_of_le hbs hc.size) (fun e=>by have:=hv b e;omega)
 exact h1.trans (hc.block b hbs)
end Go.Proofs.YtnlnclefedohkaaGreatDoor
set_option linter.unusedVariables false
set_option linter.unusedSimpArgs false
namespace Go.Proofs.YtnlnclefedohkaaGreatDoor
open Go Go.RowKit Sy

section
variable {α : Type} {enc : α → List Value} {K : Nat} {T : TypeId}
theorem wpList_append_xf {S : TypeId} {z : Value} {bytes : Nat} (ht : Tryz.prog.underlying S = some (.slice T)) (hi : (Tryz.prog.info? T).map (fun i=>(i.zero,i.size,i.bytes)) = some (some z,K,bytes)) (hzs : z.cells.size = K) (hK0 : 0 < K) (hb : bytes ≤ 1000)
  (hlen : ∀ x,(enc x).length = K) (h1 : ∀ x,∀ u ∈ enc x,u.oneCell' = true)
  {ops : Array Oper} {rest : List Oper} {o : Oper} {a : Act} {Q : Exit → Act → World → Prop} {w : World} (hgd : o.guard = none) (s x : Operand)
  (ho : o.op = .call { callee:=.builtin .append,args:=#[s,x],argTypes:=#[S,S] }) (w0 : World) (v : Value) (l m : List α) (hs : a.eval s = v) (hown : OwnX enc K T w0 w v l) (A : Option Addr) (n c : Nat) (hx : a.eval x = .slice A n c) (hm : m.length = n)
  (hrd : ReadX enc K w A m) (hl : l.length + n ≤ 2000000)
  (h : ∀ v' w',OwnX enc K T w0 w' v' (l ++ m) → w.grownBy w' v.ownBlock → Fresh w v v' → wpList Tryz.prog ops Q rest (a.put o.dst v') w') : wpList Tryz.prog ops Q (o :: rest) a w:=by
 refine wpList_plain hgd fun _ hK=>?_
 obtain ⟨i0,hi0,hz0,hz1,hz2⟩:=info_parts hi
 obtain ⟨v',w',hr,h2,h3⟩:=run_append_xs (P:=Tryz.prog) (ty:=o.type) (c:=c) ht hi0 hz0 hz1 hz2 hzs hK0 hlen h1 hown hm hrd hl hb
 have hf:=append_fresh (P:=Tryz.prog) (ty:=o.type) (c:=c) ht hi0 hz0 hz1 hz2 hzs hK0 hlen h1 hown hm hrd hl hb hr
 unfold Oper.wp execOp
 simp only [ho,resolve,invoke,builtin,Sem.run_bind,Sem.run_pure,Result.andThen_ok,List.map_toArray,List.map_cons,List.map_nil,hs,hx]
 rw [hr]
 exact hK _ _ (h v' w' h2 h3 hf)
end
end Go.Proofs.YtnlnclefedohkaaGreatDoor
