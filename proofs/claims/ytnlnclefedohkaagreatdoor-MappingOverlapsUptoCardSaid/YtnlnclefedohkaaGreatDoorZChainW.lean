/- Walk: rule.Chain. -/
import Derived.RangeFuncNested
import Derived.Test.YtnlnclefedohkaaGreatDoorZPutA
import Derived.Test.YtnlnclefedohkaaGreatDoorZGChkU
import Derived.Test.YtnlnclefedohkaaGreatDoorZRightW
import Derived.Test.YtnlnclefedohkaaGreatDoorZNarW
set_option linter.unusedVariables false
set_option linter.unusedSimpArgs false
namespace Go.Proofs.YtnlnclefedohkaaGreatDoor.Sy

theorem tr_length {p q : Pat} {l : List Str} (h : Twin p q) (hm : matchL p l = true) : (trL p q l).length + p.parts.length = q.parts.length + l.length:=by
 rw [matchL_mR,Bool.and_eq_true] at hm
 obtain ⟨hr,hm⟩:=hm
 have hle:=reaches_le hr
 have hcap : capsTo p l p.parts.length = capsR p.parts l:=capsTo_capsR p.rest p.parts l hle
 rw [trL,hcap,List.length_append,fillR_len]
 unfold reaches at hr
 rcases hq : q.rest with _ | _
 ·rw [h.rs,hq] at hr
  simp only [Bool.false_eq_true,if_false,List.length_nil] at hr ⊢
  have:=beq_iff_eq.1 hr
  omega
 ·simp only [if_true,List.length_drop]
  omega
def pairsL (a b : List Ent) : List (Ent × Ent):=a.flatMap fun x=>b.map fun y=>(x,y)
end Go.Proofs.YtnlnclefedohkaaGreatDoor.Sy
set_option linter.unusedVariables false
set_option linter.unusedSimpArgs false
namespace Go.Proofs.YtnlnclefedohkaaGreatDoor.Sy

theorem pairs_mem {a b : List Ent} {p : Ent × Ent} (h : p ∈ pairsL a b) : p.1 ∈ a ∧ p.2 ∈ b:=by
 unfold pairsL at h
 obtain ⟨x,hx,hp⟩:=List.mem_flatMap.1 h
 obtain ⟨y,hy,rfl⟩:=List.mem_map.1 hp
 exact ⟨hx,hy⟩
end Go.Proofs.YtnlnclefedohkaaGreatDoor.Sy
set_option linter.unusedVariables false
set_option linter.unusedSimpArgs false
namespace Go.Proofs.YtnlnclefedohkaaGreatDoor.Sy
def redG (b : Pat) (hs : List Pat) : Option (Option Reg):=if 64 < (redL b hs).length then none else if leastLen b (redL b hs) = 0 then some none else some (some ⟨b,redL b hs⟩)
def ovOf (x y : Ent) : Option (Option Reg):=match meetP x.left y.left with
 |none=>some none
 |some m=>redG m (x.hs ++ y.hs)
def regsL (f : Ent → Ent → Option (Option Reg)) : List (Ent × Ent) → Option (List Reg)
 |[]=>some []
 |p :: ps=>match f p.1 p.2 with
  |none=>none
  |some o=>(regsL f ps).map (o.toList ++ ·)
def regsE (f : Ent → Ent → Option (Option Reg)) (a b : List Ent) : List Reg × Int:=if (mapE a).2 ≠ 0 then ([],(mapE a).2) else if (mapE b).2 ≠ 0 then ([],(mapE b).2) else match regsL f (pairsL a b) with
 |none=>([],72)
 |some gs=>if 32 < gs.length then ([],72) else (gs,0)

theorem redG_good {b : Pat} {hs : List Pat} (hb : patErr b = 0) {g : Reg} (h : redG b hs = some (some g)) : gErr g = 0:=by
 unfold redG at h
 split at h
 ·cases h
 ·rename_i h1
  split at h
  ·cases h
  ·obtain rfl:=Option.some.inj (Option.some.inj h)
   exact gErr_of hb (fun p hp=>redL_good p hp) (by show (redL b hs).length ≤ 64;omega)
theorem regsL_mem {f : Ent → Ent → Option (Option Reg)} : ∀ {ps : List (Ent × Ent)} {gs : List Reg},regsL f ps = some gs → (∀ p ∈ ps,∃ o,f p.1 p.2 = some o) ∧ gs = ps.filterMap fun p=>(f p.1 p.2).getD none
 |[],gs,h=>by
  obtain rfl:=Option.some.inj h
  exact ⟨fun p hp=>(by cases hp),rfl⟩
 |p :: ps,gs,h=>by
  unfold regsL at h
  rcases hc : f p.1 p.2 with _ | o
  ·rw [hc] at h;cases h
  ·rw [hc] at h
   obtain ⟨l,hl,rfl⟩:=Option.map_eq_some_iff.1 h
   obtain ⟨h1,h2⟩:=regsL_mem hl
   refine ⟨fun q hq=>?_,?_⟩
   ·rcases List.mem_cons.1 hq with rfl | hq
    ·exact ⟨o,hc⟩
    ·exact h1 q hq
   ·rw [List.filterMap_cons,hc,← h2]
    cases o <;> rfl
end Go.Proofs.YtnlnclefedohkaaGreatDoor.Sy
set_option linter.unusedVariables false
set_option linter.unusedSimpArgs false
namespace Go.Proofs.YtnlnclefedohkaaGreatDoor
open Go Go.RowKit Sy
def EntOut (es : List Ent) (er : Int) (B : Nat) (e : Ending) (w' : World) : Prop:=∃ A c,e = .returned (.tuple #[.slice A es.length c,.int .i64 er]) ∧ es.length ≤ c ∧ c ≤ 9223372036854775807 ∧ ∃ zs : List NewE,zs.map (·.e) = es ∧ ReadX encE 5 w' A zs ∧ ∀ z ∈ zs,EntN w' B z
def RegOut (gs : List Reg) (er : Int) (B : Nat) (e : Ending) (w' : World) : Prop:=∃ A c,e = .returned (.tuple #[.slice A gs.length c,.int .i64 er]) ∧ gs.length ≤ c ∧ c ≤ 9223372036854775807 ∧ ∃ zs : List NewG,zs.map (·.g) = gs ∧ ReadX encG 3 w' A zs ∧ ∀ z ∈ zs,NewG.ok w' B z
theorem entOut_err (er : Int) (B : Nat) (w' : World) : EntOut [] er B (.returned (.tuple #[.slice none 0 0,.int .i64 er])) w':=⟨none,0,rfl,Nat.le_refl _,by omega,[],rfl,fun h=>absurd rfl h,fun z hz=>by cases hz⟩
theorem regOut_err (er : Int) (B : Nat) (w' : World) : RegOut [] er B (.returned (.tuple #[.slice none 0 0,.int .i64 er])) w':=⟨none,0,rfl,Nat.le_refl _,by omega,[],rfl,fun h=>absurd rfl h,fun z hz=>by cases hz⟩
theorem ResE.out {w0 : World} {es : List Ent} {e : Ending} {w' : World} (h : ResE w0 es e w') : EntOut (if 32 < es.length then [] else es) (if 32 < es.length then 72 else 0) w0.heap.size e w':=by
 unfold ResE at h
 split at h
 ·rename_i h1
  rw [if_pos h1,if_pos h1,h]
  exact entOut_err _ _ _
 ·rename_i h1
  rw [if_neg h1,if_neg h1]
  exact h
theorem PatsR.toU {w : World} {A : Option Addr} {ps : List Pat} (h : PatsR w A ps) : PatsU w A ps:=
 ⟨by have:=h.len;omega,fun h0=>by
  obtain ⟨b,o,hA,hb,hk⟩:=h.at_ h0
  refine ⟨b,o,hA,hb,fun k p hp=>?_⟩
  obtain ⟨Ak,ck,g1,g2,g3,g4,g5⟩:=hk k p hp
  exact ⟨Ak,ck,g1,g2,g3,g4,g5.toU⟩⟩
theorem colA_new {w0 w : World} (hc : Calm w0 w) : ColA w0 (w.alloc (.cells #[.slice none 0 0,.bool false] 47)) w.heap.size []:=.inl ⟨_,_,ColE.new hc,rfl,Nat.zero_le _⟩
theorem colB_new {w0 w : World} (hc : Calm w0 w) : ColB w0 (w.alloc (.cells #[.slice none 0 0,.bool false] 70)) w.heap.size []:=.inl ⟨_,_,ColG.new hc,rfl,Nat.zero_le _⟩
theorem PutEnd.some {w0 w' : World} {G : Nat} {es : List Ent} {n : Rule} {ps : List Pat} {e : Ending} {o : Option Ent} (h : PutEnd w0 w' G es n ps e) (ho : putH n ps = some o) : e = .returned (.int .i64 0) ∧ ColA w0 w' G (es ++ o.toList):=by
 unfold PutEnd at h
 rw [ho] at h
 cases o with
 |none=>exact ⟨h.1,by simpa using h.2⟩
 |some x=>exact h
theorem PutEnd.none {w0 w' : World} {G : Nat} {es : List Ent} {n : Rule} {ps : List Pat} {e : Ending} (h : PutEnd w0 w' G es n ps e) (ho : putH n ps = none) : e = .returned (.int .i64 72) ∧ ColA w0 w' G es:=by
 unfold PutEnd at h
 rw [ho] at h
 exact h
theorem take_filterMap {α β : Type} {f : α → Option β} {l : List α} {k : Nat} {x : α} (h : l[k]? = some x) : (l.take (k + 1)).filterMap f = (l.take k).filterMap f ++ (f x).toList:=by
 rw [take_snoc h,List.filterMap_append]
 rfl
end Go.Proofs.YtnlnclefedohkaaGreatDoor
set_option linter.unusedVariables false
set_option linter.unusedSimpArgs false
namespace Go.Proofs.YtnlnclefedohkaaGreatDoor
open Go Go.RowKit Sy
structure Turn (A B : World) : Prop where
 size : A.heap.size ≤ B.heap.size
 cells : ∀ (k : Nat) cs T x,A.heap[k]? = some (.cells cs T x) → B.heap[k]? = some (.cells cs T x)
theorem Turn.of {A B : World} {row : Option Nat} (hg : A.grownBy B row) (hr : ∀ r,row = some r → ∃ o : Obj,A.heap[r]? = some o ∧ o.isCells = false) : Turn A B:=
 ⟨hg.size,fun k cs T x h=>(hg.block k (heap_lt h) (fun e=>by obtain ⟨o,ho,hc⟩:=hr k e.symm;rw [h] at ho;cases ho;cases hc)).trans h⟩
theorem Turn.cell {A B : World} (h : Turn A B) {p : Addr} {v : Value} (hc : A.cell? p = some v) : B.cell? p = some v:=by
 have hb : ∃ cs T x,A.heap[p.block]? = some (.cells cs T x):=by
  unfold World.cell? at hc
  split at hc
  ·rename_i cs T x hh
   exact ⟨cs,T,x,hh⟩
  ·cases hc
 obtain ⟨cs,T,x,hh⟩:=hb
 rw [World.cell?_of_block ((h.cells _ _ _ _ hh).trans hh.symm)]
 exact hc
theorem StrsU.turn {A B : World} {ad : Option Addr} {ls : List Str} (h : StrsU A ad ls) (t : Turn A B) : StrsU B ad ls:=⟨h.len,h.each,fun h0=>by
 obtain ⟨b,o,hA,hb,hk⟩:=h.at_ h0
 exact ⟨b,o,hA,Nat.lt_of_lt_of_le hb t.size,fun k l hl=>t.cell (hk k l hl)⟩⟩
theorem NewS.turn {A B : World} {B0 c : Nat} {ad : Option Addr} {ls : List Str} (h : NewS A B0 ad c ls) (t : Turn A B) : NewS B B0 ad c ls:=⟨h.u.turn t,h.room,h.cap,h.new,fun a e=>by
 obtain ⟨cs,hh⟩:=h.row a e
 exact ⟨cs,t.cells _ _ _ _ hh⟩⟩
theorem SmallN.turn {A B : World} {B0 : Nat} {x : NewP} (h : SmallN A B0 x) (t : Turn A B) : SmallN B B0 x:=⟨h.new.turn t,h.few,h.each⟩
theorem RowX.turn {α : Type} {enc : α → List Value} {K : Nat} {T : TypeId} {A B : World} {g o : Nat} {l : List α} (h : RowX enc K T A g o l) (t : Turn A B) : RowX enc K T B g o l:=⟨by
 obtain ⟨cs,hh⟩:=h.kind
 exact ⟨cs,t.cells _ _ _ _ hh⟩,fun k x hx i u hu=>t.cell (h.cell k x hx i u hu)⟩
theorem PatsN.turn {A B : World} {B0 c : Nat} {ad : Option Addr} {ps : List Pat} (h : PatsN A B0 ad c ps) (t : Turn A B) : PatsN B B0 ad c ps:=by
 obtain ⟨l,h1,h2,h3⟩:=h.ex
 exact ⟨⟨l,h1,h2.imp id (fun ⟨g,a,b,r⟩=>⟨g,a,b,r.turn t⟩),fun x hx=>(h3 x hx).turn t⟩,h.room,h.cap⟩
theorem EntN.turn {A B : World} {B0 : Nat} {x : NewE} (h : EntN A B0 x) (t : Turn A B) : EntN B B0 x:=⟨h.l.turn t,h.r.turn t,h.h.turn t,h.few⟩
theorem owns_turn {A B : World} {base : Nat} {e : TypeId} {size n : Nat} {v : Value} {xs : List Value} (h : A.ownsRow base e size v n xs) (t : Turn A B) : B.ownsRow base e size v n xs:=by
 obtain ⟨h1,h2⟩:=h
 refine ⟨h1,h2.imp id ?_⟩
 rintro ⟨g,cap,cur,hv,hg,hh,r⟩
 exact ⟨g,cap,cur,hv,hg,t.cells _ _ _ _ hh,r⟩
theorem OwnX.turn {α : Type} {enc : α → List Value} {K : Nat} {T : TypeId} {w0 A B : World} {v : Value} {l : List α} (h : OwnX enc K T w0 A v l) (t : Turn A B) (hc : Calm w0 B) : OwnX enc K T w0 B v l:=⟨hc,owns_turn h.own t⟩
theorem ColE.turn {w0 A B : World} {G : Nat} {v : Value} {zs : List NewE} (h : ColE w0 A G v zs) (t : Turn A B) (hc : Calm w0 B) : ColE w0 B G v zs:=
 ⟨h.own.turn t hc,h.lo,by obtain ⟨cs,hh⟩:=h.kind;exact ⟨cs,t.cells _ _ _ _ hh⟩,t.cell h.c0,t.cell h.c1,fun z hz=>(h.each z hz).turn t⟩
theorem ColFull.turn {T : TypeId} {w0 A B : World} {G : Nat} (h : ColFull T w0 A G) (t : Turn A B) (hc : Calm w0 B) : ColFull T w0 B G:=
 ⟨hc,h.lo,by obtain ⟨cs,hh⟩:=h.kind;exact ⟨cs,t.cells _ _ _ _ hh⟩,by obtain ⟨ad,c,k⟩:=h.c0;exact ⟨ad,c,t.cell k⟩,t.cell h.c1⟩
theorem ColA.turn {w0 A B : World} {G : Nat} {es : List Ent} (h : ColA w0 A G es) (t : Turn A B) (hc : Calm w0 B) : ColA w0 B G es:=by
 rcases h with ⟨v,zs,h1,h2,h3⟩ | ⟨h1,h2⟩
 ·exact .inl ⟨v,zs,h1.turn t hc,h2,h3⟩
 ·exact .inr ⟨h1,h2.turn t hc⟩
theorem cell_own {β : Type} (p : Addr) (f : β → Value) (D : Nat) : OwnFrom D (fun (s : β) W=>W.cell? p = some (f s)):=fun s A B row h hg hr=>(Turn.of hg (fun r e=>(hr r e).2)).cell h
end Go.Proofs.YtnlnclefedohkaaGreatDoor
set_option linter.unusedVariables false
set_option linter.unusedSimpArgs false
namespace Go.Proofs.YtnlnclefedohkaaGreatDoor
open Go Go.RowKit Sy

end Go.Proofs.YtnlnclefedohkaaGreatDoor
set_option linter.unusedVariables false
set_option linter.unusedSimpArgs false
namespace Go.Proofs.YtnlnclefedohkaaGreatDoor
open Go Go.RowKit Sy

def bothE (r q : Rule) : Int:=if ruleErr r ≠ 0 then ruleErr r else ruleErr q
set_option maxHeartbeats 4000000 in
theorem checkBoth_c (r q : Rule) (a b : Pl) (w : World) (hr : RuleU w a r) (hq : RuleU w b q) :
  Calls Tryz.prog 51 #[ruleV a r,ruleV b q] w fun e w'=>e = .returned (.int .i64 (bothE r q)) ∧ Calm w w':=by
 obtain ⟨nl,hnl⟩ : ∃ nl,r.left.parts.length = nl:=⟨_,rfl⟩
 obtain ⟨nr,hnr⟩ : ∃ nr,r.right.parts.length = nr:=⟨_,rfl⟩
 obtain ⟨lr,hlr⟩ : ∃ lr,r.left.rest = lr:=⟨_,rfl⟩
 obtain ⟨rr,hrr⟩ : ∃ rr,r.right.rest = rr:=⟨_,rfl⟩
 obtain ⟨ex,hex⟩ : ∃ ex,r.excl = ex:=⟨_,rfl⟩
 obtain ⟨ql,hql⟩ : ∃ ql,q.left.parts.length = ql:=⟨_,rfl⟩
 obtain ⟨qr,hqr⟩ : ∃ qr,q.right.parts.length = qr:=⟨_,rfl⟩
 obtain ⟨kl,hkl⟩ : ∃ kl,q.left.rest = kl:=⟨_,rfl⟩
 obtain ⟨kr,hkr⟩ : ∃ kr,q.right.rest = kr:=⟨_,rfl⟩
 obtain ⟨qx,hqx⟩ : ∃ qx,q.excl = qx:=⟨_,rfl⟩
 obtain ⟨w1,hw1⟩ : ∃ w1,w1 = (w.alloc (.cells #[.bool ex,.slice a.AL nl a.cl,.bool lr,.slice a.AR nr a.cr,.bool rr] 52)).alloc (.cells #[.bool qx,.slice b.AL ql b.cl,.bool kl,.slice b.AR qr b.cr,.bool kr] 52):=⟨_,rfl⟩
 have hc1 : Calm w w1:=by rw [hw1];exact ((Calm.refl w).alloc _).alloc _
 have hbr : FiveB w1 w.heap.size (.bool ex) (.slice a.AL nl a.cl) (.bool lr) (.slice a.AR nr a.cr) (.bool rr):=by
  rw [hw1]
  exact (FiveB.new w _ _ _ _ _ _).calm ((Calm.refl _).alloc _)
 have hbq : FiveB w1 (w.heap.size + 1) (.bool qx) (.slice b.AL ql b.cl) (.bool kl) (.slice b.AR qr b.cr) (.bool kr):=by
  rw [hw1]
  have:=FiveB.new (w.alloc (.cells #[.bool ex,.slice a.AL nl a.cl,.bool lr,.slice a.AR nr a.cr,.bool rr] 52)) (.bool qx) (.slice b.AL ql b.cl) (.bool kl) (.slice b.AR qr b.cr) (.bool kr) 52
  simpa using this
 obtain ⟨v,hv⟩ : ∃ v,ruleErr r = v:=⟨_,rfl⟩
 obtain ⟨u,hu⟩ : ∃ u,ruleErr q = u:=⟨_,rfl⟩
 have KR : Hid (∀ W,Calm w1 W → Calls Tryz.prog 53 #[.agg #[.bool ex,.slice a.AL nl a.cl,.bool lr,.slice a.AR nr a.cr,.bool rr]] W fun e w'=>e = .returned (.int .i64 v) ∧ Calm W w'):=fun W hW=>by
  have:=rule_c r a W ((hr.calm hc1).calm hW)
  unfold ruleV at this
  rw [hnl,hnr,hlr,hrr,hex,hv] at this
  exact this
 have KQ : Hid (∀ W,Calm w1 W → Calls Tryz.prog 53 #[.agg #[.bool qx,.slice b.AL ql b.cl,.bool kl,.slice b.AR qr b.cr,.bool kr]] W fun e w'=>e = .returned (.int .i64 u) ∧ Calm W w'):=fun W hW=>by
  have:=rule_c q b W ((hq.calm hc1).calm hW)
  unfold ruleV at this
  rw [hql,hqr,hkl,hkr,hqx,hu] at this
  exact this
 have HX1 : Hid (v ≠ 0 → bothE r q = v):=fun h=>by
  unfold bothE
  rw [hv,if_pos h]
 have HX2 : Hid (v = 0 → bothE r q = u):=fun h=>by
  unfold bothE
  rw [hv,if_neg (by simpa using h),hu]
 have HW:=Lib.hid hw1
 have HC:=Lib.hid hc1
 have HBr:=Lib.hid hbr
 have HBq:=Lib.hid hbq
 unfold ruleV
 rw [hnl,hnr,hlr,hrr,hex,hql,hqr,hkl,hkr,hqx]
 clear hw1 hc1 hbr hbq hr hq hnl hnr hlr hrr hex hql hqr hkl hkr hqx hv hu
 go_enter Tryz.func51,Tryz.ntmps51
 have b:=HBr.out
 have b0:=b.c0
 have b1:=b.c1
 have b2:=b.c2
 have b3:=b.c3
 have b4:=b.c4
 clear b
 go_wp2_with fail
 rw [← HW.out]
 refine (KR.out w1 (Calm.refl _)).mono ?_
 rintro e w2 ⟨rfl,hc2⟩
 clear b0 b1 b2 b3 b4
 have HC2:=Lib.hid hc2
 by_cases hv0 : v = 0
 ·subst hv0
  have b:=HBq.out.calm hc2
  have b0:=b.c0
  have b1:=b.c1
  have b2:=b.c2
  have b3:=b.c3
  have b4:=b.c4
  clear b hc2
  go_wp2_with fail
  refine (KQ.out w2 HC2.out).mono ?_
  rintro e w3 ⟨rfl,hc3⟩
  go_wp2_with fail
  go_ret
  exact ⟨by rw [HX2.out (by trivial)];rfl,HC.out.trans (HC2.out.trans hc3)⟩
 ·have hv1 : (v != 0) = true:=by simpa using hv0
  have hv2 : (v == 0) = false:=by rw [beq_eq_false_iff_ne];exact hv0
  have HX:=Lib.hid (HX1.out hv0)
  clear hc2 hv0
  go_wp2_with fail
  go_ret
  exact ⟨by rw [HX.out];rfl,HC.out.trans HC2.out⟩
end Go.Proofs.YtnlnclefedohkaaGreatDoor
