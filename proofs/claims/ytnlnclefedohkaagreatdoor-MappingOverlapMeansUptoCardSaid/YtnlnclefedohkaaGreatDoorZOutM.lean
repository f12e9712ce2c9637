/- What the functions on mappings hand back: entries and regions of the call's own. -/
import Derived.Test.YtnlnclefedohkaaGreatDoorZPutA
import Derived.Test.YtnlnclefedohkaaGreatDoorZMapA
set_option linter.unusedVariables false
set_option linter.unusedSimpArgs false
namespace Go.Proofs.YtnlnclefedohkaaGreatDoor.Sy

theorem tr_length {p q : Pat} {l : List Str} (h : Twin p q) (hm : matchL p l = true) : (trL p q l).length + p.parts.length = q.parts.length + l.length:=by
 rw [matchL_mR,Bool.and_eq_true] at hm
 obtain ⟨hr,hm⟩:=hm
 have hle:=reaches_le hr
 have hcap : capsTo p l p.parts.length = capsR p.parts l:=capsTo_capsR p.rest p.parts l hle
 rw [trL,hcap,List.length_append,fillR_len]
 unfold reaches at hr
 rcases hq : q.rest with _ | _
 ·rw [h.rs,hq] at hr
  simp only [Bool.false_eq_true,if_false,List.length_nil] at hr ⊢
  have:=beq_iff_eq.1 hr
  omega
 ·simp only [if_true,List.length_drop]
  omega
def pairsL (a b : List Ent) : List (Ent × Ent):=a.flatMap fun x=>b.map fun y=>(x,y)
end Go.Proofs.YtnlnclefedohkaaGreatDoor.Sy
set_option linter.unusedVariables false
set_option linter.unusedSimpArgs false
namespace Go.Proofs.YtnlnclefedohkaaGreatDoor.Sy

theorem pairs_mem {a b : List Ent} {p : Ent × Ent} (h : p ∈ pairsL a b) : p.1 ∈ a ∧ p.2 ∈ b:=by
 unfold pairsL at h
 obtain ⟨x,hx,hp⟩:=List.mem_flatMap.1 h
 obtain ⟨y,hy,rfl⟩:=List.mem_map.1 hp
 exact ⟨hx,hy⟩
end Go.Proofs.YtnlnclefedohkaaGreatDoor.Sy
set_option linter.unusedVariables false
set_option linter.unusedSimpArgs false
namespace Go.Proofs.YtnlnclefedohkaaGreatDoor.Sy
def redG (b : Pat) (hs : List Pat) : Option (Option Reg):=if 64 < (redL b hs).length then none else if leastLen b (redL b hs) = 0 then some none else some (some ⟨b,redL b hs⟩)
def ovOf (x y : Ent) : Option (Option Reg):=match meetP x.left y.left with
 |none=>some none
 |some m=>redG m (x.hs ++ y.hs)
def regsL (f : Ent → Ent → Option (Option Reg)) : List (Ent × Ent) → Option (List Reg)
 |[]=>some []
 |p :: ps=>match f p.1 p.2 with
  |none=>none
  |some o=>(regsL f ps).map (o.toList ++ ·)
def regsE (f : Ent → Ent → Option (Option Reg)) (a b : List Ent) : List Reg × Int:=if (mapE a).2 ≠ 0 then ([],(mapE a).2) else if (mapE b).2 ≠ 0 then ([],(mapE b).2) else match regsL f (pairsL a b) with
 |none=>([],72)
 |some gs=>if 32 < gs.length then ([],72) else (gs,0)

theorem redG_has {b : Pat} {hs : List Pat} (hb : patErr b = 0) (hh : ∀ h ∈ hs,patErr h = 0) {o : Option Reg} (h : redG b hs = some o) {l : List Str} (hc : l.all comp = true) : (o.any fun g=>hasG g l) = hasL b hs l:=by
 unfold redG at h
 split at h
 ·cases h
 ·split at h
  ·rename_i h0
   obtain rfl:=Option.some.inj h
   show false = _
   rw [← redL_has hb hh hc,least_none (patErr_form hb).1 h0 hc]
  ·obtain rfl:=Option.some.inj h
   show hasL b (redL b hs) l = _
   exact redL_has hb hh hc
theorem redG_good {b : Pat} {hs : List Pat} (hb : patErr b = 0) {g : Reg} (h : redG b hs = some (some g)) : gErr g = 0:=by
 unfold redG at h
 split at h
 ·cases h
 ·rename_i h1
  split at h
  ·cases h
  ·obtain rfl:=Option.some.inj (Option.some.inj h)
   exact gErr_of hb (fun p hp=>redL_good p hp) (by show (redL b hs).length ≤ 64;omega)
theorem count_filterMap {α β : Type} (f : α → Option β) (p : β → Bool) : ∀ l : List α,(l.filterMap f).countP p = l.countP fun a=>(f a).any p
 |[]=>rfl
 |a :: l=>by
  rw [List.filterMap_cons,List.countP_cons]
  rcases hf : f a with _ | b
  ·simp only [hf]
   rw [count_filterMap f p l]
   simp
  ·simp only [hf]
   rw [List.countP_cons,count_filterMap f p l]
   rfl
theorem find_count {α : Type} {p : α → Bool} {m : List α} (h : Apart p m) : m.countP p = if (m.find? p).isSome then 1 else 0:=by
 rcases hf : m.find? p with _ | x
 ·rw [List.countP_eq_zero.2 (fun a ha=>List.find?_eq_none.1 hf a ha)]
  rfl
 ·have h1:=h.count
  have h2 : 0 < m.countP p:=List.countP_pos_iff.2 ⟨x,List.mem_of_find?_eq_some hf,List.find?_some hf⟩
  simp only [Option.isSome_some,if_true]
  omega
theorem fwdM_isSome {m : List Ent} {s : Str} {l : List Str} (hp : pathOf s = some l) : (fwdM m s).isSome = (m.find? fun x=>hasG x.reg l).isSome:=by
 unfold fwdM
 rw [hp]
 simp
theorem regsL_mem {f : Ent → Ent → Option (Option Reg)} : ∀ {ps : List (Ent × Ent)} {gs : List Reg},regsL f ps = some gs → (∀ p ∈ ps,∃ o,f p.1 p.2 = some o) ∧ gs = ps.filterMap fun p=>(f p.1 p.2).getD none
 |[],gs,h=>by
  obtain rfl:=Option.some.inj h
  exact ⟨fun p hp=>(by cases hp),rfl⟩
 |p :: ps,gs,h=>by
  unfold regsL at h
  rcases hc : f p.1 p.2 with _ | o
  ·rw [hc] at h;cases h
  ·rw [hc] at h
   obtain ⟨l,hl,rfl⟩:=Option.map_eq_some_iff.1 h
   obtain ⟨h1,h2⟩:=regsL_mem hl
   refine ⟨fun q hq=>?_,?_⟩
   ·rcases List.mem_cons.1 hq with rfl | hq
    ·exact ⟨o,hc⟩
    ·exact h1 q hq
   ·rw [List.filterMap_cons,hc,← h2]
    cases o <;> rfl
theorem count_map {α β : Type} (f : α → β) (p : β → Bool) (l : List α) : (l.map f).countP p = l.countP fun a=>p (f a):=by
 rw [List.countP_map]
 rfl
theorem count_and {α : Type} (c : Bool) (p : α → Bool) (l : List α) : (l.countP fun a=>c && p a) = if c then l.countP p else 0:=by
 cases c with
 |false=>simp
 |true=>simp
theorem count_pairs (p q : Ent → Bool) (b : List Ent) : ∀ a : List Ent,(pairsL a b).countP (fun z=>p z.1 && q z.2) = a.countP p * b.countP q
 |[]=>by simp [pairsL]
 |x :: a=>by
  have ih:=count_pairs p q b a
  unfold pairsL at ih ⊢
  rw [List.flatMap_cons,List.countP_append,ih,count_map,List.countP_cons]
  show (b.countP fun y=>p x && q y) + _ = _
  rw [count_and]
  rcases p x with _ | _
  ·simp
  ·simp only [if_true]
   rw [Nat.add_mul,Nat.one_mul,Nat.add_comm]
theorem ov_has {x y : Ent} (hx : gErr x.reg = 0) (hy : gErr y.reg = 0) {o : Option Reg} (h : ovOf x y = some o) {l : List Str} (hc : l.all comp = true) : (o.any fun g=>hasG g l) = (hasG x.reg l && hasG y.reg l):=by
 have x1 : patErr x.left = 0:=(gErr_zero hx).1
 have y1 : patErr y.left = 0:=(gErr_zero hy).1
 unfold ovOf at h
 show _ = ((matchL x.left l && !(x.hs.any fun h=>matchL h l)) && (matchL y.left l && !(y.hs.any fun h=>matchL h l)))
 rcases hm : meetP x.left y.left with _ | m
 ·rw [hm] at h
  obtain rfl:=Option.some.inj h
  have h1 : meetL x.left y.left = none:=by
   unfold meetP at hm
   rw [if_pos ⟨x1,y1⟩] at hm
   exact hm
  have:=meetL_nomatch h1 hc
  show false = _
  cases hx' : matchL x.left l <;> cases hy' : matchL y.left l <;> simp_all
 ·rw [hm] at h
  obtain ⟨m1,m2,m3,m4⟩:=meetP_some hm
  have hgood : ∀ p ∈ x.hs ++ y.hs,patErr p = 0:=fun p hp=>(List.mem_append.1 hp).elim ((gErr_zero hx).2.1 p) ((gErr_zero hy).2.1 p)
  rw [redG_has m4 hgood h hc]
  unfold hasL
  rw [meetL_match (allOk_of m1) (allOk_of m2) m3 hc,List.any_append]
  cases matchL x.left l <;> cases matchL y.left l <;> cases (x.hs.any fun h=>matchL h l) <;> cases (y.hs.any fun h=>matchL h l) <;> rfl
theorem ov_count {a b : List Ent} (ha : Mapping a) (hb : Mapping b) {gs : List Reg} (h : regsL ovOf (pairsL a b) = some gs) {s : Str} {l : List Str} (hp : pathOf s = some l) : gs.countP (fun g=>hasG g l) = if (fwdM a s).isSome && (fwdM b s).isSome then 1 else 0:=by
 obtain ⟨h1,h2⟩:=regsL_mem h
 have hc:=(pathOf_some hp).2.1
 rw [h2,count_filterMap,fwdM_isSome hp,fwdM_isSome hp]
 have e : (pairsL a b).countP (fun p=>((ovOf p.1 p.2).getD none).any fun g=>hasG g l) = (pairsL a b).countP fun z=>hasG z.1.reg l && hasG z.2.reg l:=by
  refine List.countP_congr fun p hpm=>?_
  obtain ⟨o,ho⟩:=h1 p hpm
  obtain ⟨hx,hy⟩:=pairs_mem hpm
  rw [ho]
  simp only [Option.getD_some]
  rw [ov_has (ha.good _ hx).2 (hb.good _ hy).2 ho hc]
 rw [e,count_pairs (fun x=>hasG x.reg l) (fun y=>hasG y.reg l),find_count (ha.left_apart hc),find_count (hb.left_apart hc)]
 cases (a.find? fun x=>hasG x.reg l).isSome <;> cases (b.find? fun x=>hasG x.reg l).isSome <;> rfl
end Go.Proofs.YtnlnclefedohkaaGreatDoor.Sy
set_option linter.unusedVariables false
set_option linter.unusedSimpArgs false
namespace Go.Proofs.YtnlnclefedohkaaGreatDoor
open Go Go.RowKit Sy
def EntOut (es : List Ent) (er : Int) (B : Nat) (e : Ending) (w' : World) : Prop:=∃ A c,e = .returned (.tuple #[.slice A es.length c,.int .i64 er]) ∧ es.length ≤ c ∧ c ≤ 9223372036854775807 ∧ ∃ zs : List NewE,zs.map (·.e) = es ∧ ReadX encE 5 w' A zs ∧ ∀ z ∈ zs,EntN w' B z
def RegOut (gs : List Reg) (er : Int) (B : Nat) (e : Ending) (w' : World) : Prop:=∃ A c,e = .returned (.tuple #[.slice A gs.length c,.int .i64 er]) ∧ gs.length ≤ c ∧ c ≤ 9223372036854775807 ∧ ∃ zs : List NewG,zs.map (·.g) = gs ∧ ReadX encG 3 w' A zs ∧ ∀ z ∈ zs,NewG.ok w' B z
theorem entOut_err (er : Int) (B : Nat) (w' : World) : EntOut [] er B (.returned (.tuple #[.slice none 0 0,.int .i64 er])) w':=⟨none,0,rfl,Nat.le_refl _,by omega,[],rfl,fun h=>absurd rfl h,fun z hz=>by cases hz⟩
theorem regOut_err (er : Int) (B : Nat) (w' : World) : RegOut [] er B (.returned (.tuple #[.slice none 0 0,.int .i64 er])) w':=⟨none,0,rfl,Nat.le_refl _,by omega,[],rfl,fun h=>absurd rfl h,fun z hz=>by cases hz⟩
theorem ResE.out {w0 : World} {es : List Ent} {e : Ending} {w' : World} (h : ResE w0 es e w') : EntOut (if 32 < es.length then [] else es) (if 32 < es.length then 72 else 0) w0.heap.size e w':=by
 unfold ResE at h
 split at h
 ·rename_i h1
  rw [if_pos h1,if_pos h1,h]
  exact entOut_err _ _ _
 ·rename_i h1
  rw [if_neg h1,if_neg h1]
  exact h
theorem PatsR.toU {w : World} {A : Option Addr} {ps : List Pat} (h : PatsR w A ps) : PatsU w A ps:=
 ⟨by have:=h.len;omega,fun h0=>by
  obtain ⟨b,o,hA,hb,hk⟩:=h.at_ h0
  refine ⟨b,o,hA,hb,fun k p hp=>?_⟩
  obtain ⟨Ak,ck,g1,g2,g3,g4,g5⟩:=hk k p hp
  exact ⟨Ak,ck,g1,g2,g3,g4,g5.toU⟩⟩
theorem colA_new {w0 w : World} (hc : Calm w0 w) : ColA w0 (w.alloc (.cells #[.slice none 0 0,.bool false] 47)) w.heap.size []:=.inl ⟨_,_,ColE.new hc,rfl,Nat.zero_le _⟩
theorem colB_new {w0 w : World} (hc : Calm w0 w) : ColB w0 (w.alloc (.cells #[.slice none 0 0,.bool false] 70)) w.heap.size []:=.inl ⟨_,_,ColG.new hc,rfl,Nat.zero_le _⟩
theorem PutEnd.some {w0 w' : World} {G : Nat} {es : List Ent} {n : Rule} {ps : List Pat} {e : Ending} {o : Option Ent} (h : PutEnd w0 w' G es n ps e) (ho : putH n ps = some o) : e = .returned (.int .i64 0) ∧ ColA w0 w' G (es ++ o.toList):=by
 unfold PutEnd at h
 rw [ho] at h
 cases o with
 |none=>exact ⟨h.1,by simpa using h.2⟩
 |some x=>exact h
theorem PutEnd.none {w0 w' : World} {G : Nat} {es : List Ent} {n : Rule} {ps : List Pat} {e : Ending} (h : PutEnd w0 w' G es n ps e) (ho : putH n ps = none) : e = .returned (.int .i64 72) ∧ ColA w0 w' G es:=by
 unfold PutEnd at h
 rw [ho] at h
 exact h
theorem take_filterMap {α β : Type} {f : α → Option β} {l : List α} {k : Nat} {x : α} (h : l[k]? = some x) : (l.take (k + 1)).filterMap f = (l.take k).filterMap f ++ (f x).toList:=by
 rw [take_snoc h,List.filterMap_append]
 rfl
end Go.Proofs.YtnlnclefedohkaaGreatDoor
