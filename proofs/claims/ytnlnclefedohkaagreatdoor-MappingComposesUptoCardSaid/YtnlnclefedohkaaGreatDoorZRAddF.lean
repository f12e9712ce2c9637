/- Walk: the reference's add; where its row then lies. -/
import Derived.Test.YtnlnclefedohkaaGreatDoorZChainW
import Derived.Test.YtnlnclefedohkaaGreatDoorZRMChk
import Derived.Test.YtnlnclefedohkaaGreatDoorZRSimpW
import Derived.Test.YtnlnclefedohkaaGreatDoorZRCommon
import Derived.Test.YtnlnclefedohkaaGreatDoorZColR
set_option linter.unusedVariables false
set_option linter.unusedSimpArgs false
namespace Go.Proofs.YtnlnclefedohkaaGreatDoor
open Go Go.RowKit Sy
structure EntV (w0 w : World) (x : NewE) : Prop where
 l : PatA w0 x.LA x.lc x.e.left ∨ SmallN w w0.heap.size ⟨x.LA,x.lc,x.e.left⟩
 r : PatA w0 x.RA x.rc x.e.right ∨ SmallN w w0.heap.size ⟨x.RA,x.rc,x.e.right⟩
 h : PatsN w w0.heap.size x.HA x.hc x.e.hs
 few : x.e.hs.length ≤ 16384
theorem EntV.calm {w0 w w' : World} {x : NewE} (h : EntV w0 w x) (hc : Calm w w') : EntV w0 w' x:=⟨h.l.imp id fun h=>h.calm hc,h.r.imp id fun h=>h.calm hc,h.h.calm hc,h.few⟩
theorem EntV.own {w0 w w' : World} {x : NewE} (h : EntV w0 w x) {B0 n K : Nat} {v : Value} {T : TypeId} {xs : List Value} (hT : 40 ≠ T) (hS : 9 ≠ T) (hown : w.ownsRow B0 T K v n xs) (hg : w.grownBy w' v.ownBlock) : EntV w0 w' x:=
 ⟨h.l.imp id fun h=>h.own hS hown hg,h.r.imp id fun h=>h.own hS hown hg,h.h.own hT hS hown hg,h.few⟩
theorem EntV.u {w0 w : World} {x : NewE} (h : EntV w0 w x) (hc : Calm w0 w) : EntU w x:=⟨h.l.elim (fun h=>h.calm hc) (fun h=>h.a),h.r.elim (fun h=>h.calm hc) (fun h=>h.a),h.h.reads h.few,h.h.room,h.h.cap⟩
structure RowV (w0 wr : World) (v : Value) (out : List Ent) (zs : List NewE) : Prop where
 own : OwnX encE 5 43 w0 wr v zs
 is : zs.map (·.e) = out
 each : ∀ z ∈ zs,EntV w0 wr z
theorem RowV.nil {w0 w : World} (hc : Calm w0 w) : RowV w0 w (.slice none 0 0) [] []:=⟨OwnX.nil hc,rfl,fun z hz=>by cases hz⟩
theorem RowV.to {w0 w w' : World} {v : Value} {out : List Ent} {zs : List NewE} (h : RowV w0 w v out zs) (hc : Calm w w') : RowV w0 w' v out zs:=⟨h.own.to hc,h.is,fun z hz=>(h.each z hz).calm hc⟩
theorem RowV.len {w0 w : World} {v : Value} {out : List Ent} {zs : List NewE} (h : RowV w0 w v out zs) : zs.length = out.length:=by rw [← h.is,List.length_map]
theorem RowV.add {w0 w w2 w3 : World} {v v2 : Value} {out : List Ent} {zs : List NewE} {z : NewE} (h : RowV w0 w v out zs) (hc : Calm w w2) (hz : EntV w0 w2 z) (hg : w2.grownBy w3 v.ownBlock) (hown : OwnX encE 5 43 w0 w3 v2 (zs ++ [z])) : RowV w0 w3 v2 (out ++ [z.e]) (zs ++ [z]):=by
 refine ⟨hown,by rw [List.map_append,h.is];rfl,fun y hy=>?_⟩
 rcases List.mem_append.1 hy with hy | hy
 ·exact ((h.each y hy).calm hc).own (by decide) (by decide) (h.own.to hc).own hg
 ·rw [List.mem_singleton] at hy
  subst hy
  exact hz.own (by decide) (by decide) (h.own.to hc).own hg
def EntOutR (es : List Ent) (er : Int) (e : Ending) (w' : World) : Prop:=∃ A c,e = .returned (.tuple #[.slice A es.length c,.int .i64 er]) ∧ es.length ≤ c ∧ c ≤ 9223372036854775807 ∧ EntsR w' A es
theorem entOutR_err (er : Int) (w' : World) : EntOutR [] er (.returned (.tuple #[.slice none 0 0,.int .i64 er])) w':=⟨none,0,rfl,Nat.le_refl _,by omega,[],rfl,fun h=>absurd rfl h,fun z hz=>by cases hz⟩
theorem RowV.reads {w0 w : World} {v : Value} {out : List Ent} {zs : List NewE} (h : RowV w0 w v out zs) : ∃ A c,v = .slice A out.length c ∧ out.length ≤ c ∧ c ≤ 9223372036854775807 ∧ EntsR w A out:=by
 have hl:=h.len
 rcases h.own.row encE_len with ⟨rfl,h0⟩ | ⟨g,c,rfl,h1,h2,_,hr⟩
 ·subst h0
  have : out = []:=by rw [← h.is];rfl
  subst this
  exact ⟨none,0,rfl,Nat.le_refl _,by omega,[],rfl,fun h=>absurd rfl h,fun y hy=>by cases hy⟩
 ·rw [hl] at h1 ⊢
  exact ⟨_,c,rfl,h1,h2,zs,h.is,fun _=>⟨g,0,rfl,hr.lt,fun k x hk i u hu=>hr.cell k x hk i u hu⟩,fun z hz=>(h.each z hz).u h.own.calm⟩
theorem EntOut.r {es : List Ent} {er : Int} {B : Nat} {e : Ending} {w' : World} (h : EntOut es er B e w') : EntOutR es er e w':=by
 obtain ⟨A,c,h1,h2,h3,zs,h4,h5,h6⟩:=h
 exact ⟨A,c,h1,h2,h3,zs,h4,h5,fun z hz=>(h6 z hz).u⟩

end Go.Proofs.YtnlnclefedohkaaGreatDoor
set_option linter.unusedVariables false
set_option linter.unusedSimpArgs false
namespace Go.Proofs.YtnlnclefedohkaaGreatDoor
open Go Go.RowKit Sy

theorem FrB.grown {w w2 w3 : World} {B : Nat} {v : Value} (hc : Calm w w2) (hg : w2.grownBy w3 v.ownBlock) (hv : ∀ b,some b = v.ownBlock → b < B) : FrB w w3 B:=fun b hb hbs=>by
 have h1:=hg.block b (Nat.lt_of_lt_of_le hbs hc.size) (fun e=>by have:=hv b e;omega)
 exact h1.trans (hc.block b hbs)
end Go.Proofs.YtnlnclefedohkaaGreatDoor
set_option linter.unusedVariables false
set_option linter.unusedSimpArgs false
namespace Go.Proofs.YtnlnclefedohkaaGreatDoor
open Go Go.RowKit Sy

section
variable {α : Type} {enc : α → List Value} {K : Nat} {T : TypeId}
theorem wpList_append_xf {S : TypeId} {z : Value} {bytes : Nat} (ht : Tryz.prog.underlying S = some (.slice T)) (hi : (Tryz.prog.info? T).map (fun i=>(i.zero,i.size,i.bytes)) = some (some z,K,bytes)) (hzs : z.cells.size = K) (hK0 : 0 < K) (hb : bytes ≤ 1000)
  (hlen : ∀ x,(enc x).length = K) (h1 : ∀ x,∀ u ∈ enc x,u.oneCell' = true)
  {ops : Array Oper} {rest : List Oper} {o : Oper} {a : Act} {Q : Exit → Act → World → Prop} {w : World} (hgd : o.guard = none) (s x : Operand)
  (ho : o.op = .call { callee:=.builtin .append,args:=#[s,x],argTypes:=#[S,S] }) (w0 : World) (v : Value) (l m : List α) (hs : a.eval s = v) (hown : OwnX enc K T w0 w v l) (A : Option Addr) (n c : Nat) (hx : a.eval x = .slice A n c) (hm : m.length = n)
  (hrd : ReadX enc K w A m) (hl : l.length + n ≤ 2000000)
  (h : ∀ v' w',OwnX enc K T w0 w' v' (l ++ m) → w.grownBy w' v.ownBlock → Fresh w v v' → wpList Tryz.prog ops Q rest (a.put o.dst v') w') : wpList Tryz.prog ops Q (o :: rest) a w:=by
 refine wpList_plain hgd fun _ hK=>?_
 obtain ⟨i0,hi0,hz0,hz1,hz2⟩:=info_parts hi
 obtain ⟨v',w',hr,h2,h3⟩:=run_append_xs (P:=Tryz.prog) (ty:=o.type) (c:=c) ht hi0 hz0 hz1 hz2 hzs hK0 hlen h1 hown hm hrd hl hb
 have hf:=append_fresh (P:=Tryz.prog) (ty:=o.type) (c:=c) ht hi0 hz0 hz1 hz2 hzs hK0 hlen h1 hown hm hrd hl hb hr
 unfold Oper.wp execOp
 simp only [ho,resolve,invoke,builtin,Sem.run_bind,Sem.run_pure,Result.andThen_ok,List.map_toArray,List.map_cons,List.map_nil,hs,hx]
 rw [hr]
 exact hK _ _ (h v' w' h2 h3 hf)
end
def AddEnd2 (w0 w w' : World) (v : Value) (out : List Ent) (n : Rule) (ps : List Pat) (e : Ending) : Prop:=match putH n ps with
 |none=>e = .returned (.tuple #[.slice none 0 0,.bool false]) ∧ Calm w0 w'
 |some o=>∃ v' zs',e = .returned (.tuple #[v',.bool true]) ∧ RowV w0 w' v' (out ++ o.toList) zs' ∧ Fresh w v v' ∧ w.heap.size ≤ w'.heap.size ∧ ∀ b,b < w.heap.size → some b ≠ v.ownBlock → w'.heap[b]? = w.heap[b]?
theorem AddEnd2.none {w0 w w' : World} {v : Value} {out : List Ent} {n : Rule} {ps : List Pat} {e : Ending} (h : AddEnd2 w0 w w' v out n ps e) (hp : putH n ps = none) : e = .returned (.tuple #[.slice none 0 0,.bool false]) ∧ Calm w0 w':=by
 unfold AddEnd2 at h
 rw [hp] at h
 exact h
theorem AddEnd2.some {w0 w w' : World} {v : Value} {out : List Ent} {n : Rule} {ps : List Pat} {e : Ending} {o : Option Ent} (h : AddEnd2 w0 w w' v out n ps e) (hp : putH n ps = some o) : ∃ v' zs',e = .returned (.tuple #[v',.bool true]) ∧ RowV w0 w' v' (out ++ o.toList) zs' ∧ Fresh w v v' ∧ w.heap.size ≤ w'.heap.size ∧ ∀ b,b < w.heap.size → some b ≠ v.ownBlock → w'.heap[b]? = w.heap[b]?:=by
 unfold AddEnd2 at h
 rw [hp] at h
 exact h
set_option maxHeartbeats 8000000 in
theorem radd_f (w0 wq w : World) (v : Value) (out : List Ent) (zs : List NewE) (n : Rule) (ps : List Pat) (a : Pl) (ex : Bool) (nl nr N pc : Nat) (lr rr : Bool) (PA : Option Addr) (h : RowV w0 wq v out zs) (hq : Calm wq w)
  (hl : PatA w0 a.AL a.cl n.left ∨ SmallN w w0.heap.size ⟨a.AL,a.cl,n.left⟩) (hr : PatA w0 a.AR a.cr n.right ∨ SmallN w w0.heap.size ⟨a.AR,a.cr,n.right⟩) (hps : PatsR w PA ps) (hN : ps.length = N) (gl : patErr n.left = 0) (gp : ∀ p ∈ ps,patErr p = 0)
  (hnl : n.left.parts.length = nl) (hnr : n.right.parts.length = nr) (hlr : n.left.rest = lr) (hrr : n.right.rest = rr) (hol : out.length ≤ 1048576) :
  Calls Tryz.prog 31 #[v,.agg #[.bool ex,.slice a.AL nl a.cl,.bool lr,.slice a.AR nr a.cr,.bool rr],.slice PA N pc] w fun e w'=>AddEnd2 w0 w w' v out n ps e:=by
 obtain ⟨w1,hw1⟩ : ∃ w1,w1 = w.alloc (.cells #[.bool ex,.slice a.AL nl a.cl,.bool lr,.slice a.AR nr a.cr,.bool rr] 52):=⟨_,rfl⟩
 obtain ⟨B,hB⟩ : ∃ B,w.heap.size = B:=⟨_,rfl⟩
 have hc1 : Calm w w1:=by rw [hw1];exact (Calm.refl w).alloc _
 have hb1 : FiveB w1 B (.bool ex) (.slice a.AL nl a.cl) (.bool lr) (.slice a.AR nr a.cr) (.bool rr):=by
  rw [hw1,← hB]
  exact FiveB.new w _ _ _ _ _ _
 have h0 : Calm w0 w:=h.own.calm.trans hq
 have hpl : PatA w a.AL a.cl n.left:=hl.elim (fun h=>h.calm h0) (fun h=>h.a)
 obtain ⟨gs,hgs⟩ : ∃ gs,redL n.left ps = gs:=⟨_,rfl⟩
 obtain ⟨gm,hgm⟩ : ∃ gm,gs.length = gm:=⟨_,rfl⟩
 obtain ⟨L0,hL0⟩ : ∃ L0,leastLen n.left gs = L0:=⟨_,rfl⟩
 have hgml : gm ≤ 16384:=by
  have h1:=redL_len n.left ps
  have h2:=hps.len
  rw [hgs,hgm] at h1
  omega
 have HGL : Hid (gs.length ≤ 16384):=by
  show gs.length ≤ 16384
  rw [hgm];exact hgml
 have KS : Hid (∀ W,Calm w W → Calls Tryz.prog 41 #[.agg #[.slice a.AL nl a.cl,.bool lr],.slice PA N pc] W fun e w'=>(∃ KA kc,e = .returned (.agg #[.slice a.AL nl a.cl,.bool lr,.slice KA gm kc]) ∧ PatsN w' W.heap.size KA kc gs) ∧ Calm W w'):=fun W hW=>by
  have:=rsimp_c n.left ps a.AL a.cl PA N pc W (hpl.calm hW) (hps.calm hW) hN gl gp
  unfold RSEnd at this
  rw [hnl,hlr,hgs,hgm] at this
  exact this
 have KLn : Hid (∀ W KA kc,Calm w W → PatsR W KA gs → Calls Tryz.prog 42 #[.agg #[.slice a.AL nl a.cl,.bool lr,.slice KA gm kc]] W fun e w'=>e = .returned (.int .i64 L0) ∧ Calm W w'):=fun W KA kc hW hP=>
  rlenp_v n.left gs L0 nl gm lr a.AL a.cl KA kc W (hpl.calm hW).r hP gl (fun p hp=>by rw [← hgs] at hp;exact redL_good p hp) hL0 hnl hgm hlr
 have HP0 : 64 < gm → Hid (putH n ps = none):=fun h=>by
  show putH n ps = none
  unfold putH
  rw [hgs,hgm,if_pos h]
 have HP1 : ¬ 64 < gm → L0 = 0 → Hid (putH n ps = some none):=fun h h2=>by
  show putH n ps = some none
  unfold putH
  rw [hgs,hgm,if_neg h,hL0,if_pos h2]
 have HP2 : ¬ 64 < gm → L0 ≠ 0 → Hid (putH n ps = some (some ⟨n.left,n.right,gs⟩)):=fun h h2=>by
  show putH n ps = _
  unfold putH
  rw [hgs,hgm,if_neg h,hL0,if_neg h2]
 have HH:=Lib.hid h
 have HQ:=Lib.hid hq
 have HC0:=Lib.hid h0
 have HW:=Lib.hid hw1
 have HC:=Lib.hid hc1
 have HB:=Lib.hid hb1
 have HBs:=Lib.hid hB
 have HSd:=Lib.hid (And.intro hl hr)
 have HN:=Lib.hid (And.intro hnl (And.intro hnr (And.intro hlr (And.intro hrr hgm))))
 have hzl : zs.length ≤ 1048576:=by rw [h.len];exact hol
 have b0:=hb1.c0
 have b1:=hb1.c1
 have b2:=hb1.c2
 have b3:=hb1.c3
 have b4:=hb1.c4
 clear h hq h0 hl hr hps hN gl gp hnl hnr hlr hrr hw1 hc1 hb1 hB hpl hgs hgm hL0
 go_enter Tryz.func31,Tryz.ntmps31
 go_wp2_with fail
 rw [← HW.out]
 refine (KS.out w1 HC.out).mono ?_
 rintro e w3 ⟨⟨KA,kc,rfl,hP⟩,hc3⟩
 rw [HBs.out]
 obtain ⟨w4,hw4⟩ : ∃ w4,w4 = w3.alloc (.cells #[.slice a.AL nl a.cl,.bool lr,.slice KA gm kc] 68):=⟨_,rfl⟩
 obtain ⟨D,hD⟩ : ∃ D,w3.heap.size = D:=⟨_,rfl⟩
 have hc34 : Calm w3 w4:=by
  show Below _ _ _
  rw [hw4]
  exact (Calm.refl _).alloc _
 have hg4 : RgB w4 D (.slice a.AL nl a.cl) (.bool lr) (.slice KA gm kc):=by rw [hw4,← hD];exact RgB.new w3 _ _ _
 have HG4:=Lib.hid hg4
 have HP4:=Lib.hid (hP.calm hc34)
 have HC14 : Hid (Calm w1 w4):=Calm.trans hc3 hc34
 have HC4 : Hid (Calm w w4):=HC.out.trans HC14.out
 have HW4:=Lib.hid hw4
 have HDs:=Lib.hid hD
 clear hP hc3 hc34 hw4 hD hg4 b0 b1 b2 b3 b4
 by_cases h64 : 64 < gm
 ·have HPu:=HP0 h64
  have h64i : (64 : Int) < (gm : Int):=by omega
  clear HP0 HP1 HP2
  go_wp2_with fail
  go_ret2
  unfold AddEnd2
  rw [HPu.out,← HW4.out]
  exact ⟨rfl,HC0.out.trans HC4.out⟩
 ·have h64i : ¬ (64 : Int) < (gm : Int):=by omega
  have HP1':=HP1 h64
  have HP2':=HP2 h64
  clear HP0 HP1 HP2
  go_wp2_with fail
  rw [← HW4.out]
  refine (KLn.out w4 KA kc HC4.out (HP4.out.reads HGL.out)).mono ?_
  rintro e w5 ⟨rfl,hc5⟩
  rw [HDs.out]
  have HC5 : Hid (Calm w w5):=HC4.out.trans hc5
  by_cases hz0 : L0 = 0
  ·subst hz0
   have HPu:=HP1' rfl
   clear HP1' HP2' hc5
   go_wp2_with fail
   go_ret2
   unfold AddEnd2
   rw [HPu.out]
   exact ⟨v,zs,rfl,by rw [Option.toList_none,List.append_nil];exact HH.out.to (HQ.out.trans HC5.out),.inl rfl,HC5.out.size,fun b hb _=>HC5.out.block b hb⟩
  ·have HPu:=HP2' hz0
   have hzp : ((L0 : Int) == 0) = false:=by rw [beq_eq_false_iff_ne];omega
   have hf5:=HB.out.calm (HC14.out.trans hc5)
   have hg5:=HG4.out.calm hc5
   have b1:=hf5.c1
   have b2:=hf5.c2
   have b3:=hf5.c3
   have b4:=hf5.c4
   have g2:=hg5.c2
   have HV5 : Hid (EntV w0 w5 ⟨a.AL,a.cl,a.AR,a.cr,KA,kc,⟨n.left,n.right,gs⟩⟩):=by
    refine ⟨HSd.out.1.imp id (fun h=>h.calm HC5.out),HSd.out.2.imp id (fun h=>h.calm HC5.out),((HP4.out.calm hc5).mono ?_),?_⟩
    ·have h1:=HC.out.size
     have h2:=HC0.out.size
     omega
    ·have:=HN.out.2.2.2.2
     show gs.length ≤ _
     omega
   clear HP1' HP2' hc5 hf5 hg5 hz0
   go_wp2_with (at_builtin;refine wpList_append_xf (enc:=encE) (K:=5) (T:=43) Tryz.underlying22 info_ent rfl (by decide) (by decide) encE_len encE_one rfl (.tmp 21) (.tmp 29) rfl w0 v zs [⟨a.AL,a.cl,a.AR,a.cr,KA,kc,⟨n.left,n.right,gs⟩⟩] rfl (HH.out.own.to (HQ.out.trans (HC5.out.alloc _))) _ 1 1 rfl rfl (read_newE ⟨a.AL,a.cl,a.AR,a.cr,KA,kc,⟨n.left,n.right,gs⟩⟩ rfl HN.out.1 HN.out.2.2.1 HN.out.2.1 HN.out.2.2.2.1 HN.out.2.2.2.2) (by omega) ?_;intro v9 w9 hown9 hg9 hfr9)
   have HRel : Hid (RowV w0 w9 v9 (out ++ [⟨n.left,n.right,gs⟩]) (zs ++ [⟨a.AL,a.cl,a.AR,a.cr,KA,kc,⟨n.left,n.right,gs⟩⟩])):=HH.out.add (HQ.out.trans (HC5.out.alloc _)) (HV5.out.calm ((Calm.refl _).alloc _)) hg9 hown9
   have hc9:=HC5.out.alloc (.cells #[.slice a.AL nl a.cl,.bool lr,.slice a.AR nr a.cr,.bool rr,.slice KA gm kc] 43)
   have HFr : Hid (Fresh w v v9 ∧ w.heap.size ≤ w9.heap.size ∧ ∀ b,b < w.heap.size → some b ≠ v.ownBlock → w9.heap[b]? = w.heap[b]?):=⟨Fresh.of hc9 hfr9,Nat.le_trans hc9.size hg9.size,fun b hb hne=>(hg9.block b (Nat.lt_of_lt_of_le hb hc9.size) hne).trans (hc9.block b hb)⟩
   go_ret2
   unfold AddEnd2
   rw [HPu.out]
   exact ⟨v9,_,rfl,HRel.out,HFr.out⟩
end Go.Proofs.YtnlnclefedohkaaGreatDoor
