/- A slice of strings that a call itself makes by append: the word and the law of one step; strings.Split at '/'. -/
import Derived.WalkKit
import Derived.Lib.Hide
import Derived.Deep.Draws
import Derived.Deep.QuietTactic
import Derived.BigQuiet
import Derived.OwnWalk
import Derived.Laws.AppendOwn
import Derived.Deep.AppendLies
import Derived.Test.YthopphabeddnfaaGreatDoorZPlain
import Derived.Test.YthopphabeddnfaaGreatDoorZPath
import Derived.Test.YthopphabeddnfaaGreatDoorZShelf
set_option linter.unusedVariables false
set_option linter.unusedSimpArgs false
namespace Go.Proofs.YthopphabeddnfaaGreatDoor
open Go.RowKit Sy
def bs (l : List UInt8) : ByteArray:=⟨l.toArray⟩
theorem bs_toList (l : List UInt8) : (bs l).data.toList = l:=by simp [bs]
theorem bs_size (l : List UInt8) : (bs l).size = l.length:=by simp [bs,ByteArray.size]
theorem bs_toL (l : List UInt8) : (bs l).toList = l:=by rw [ByteArray.toList_eq];exact bs_toList l
theorem bs_get (l : List UInt8) (k : Nat) (h : k < (bs l).size) : (bs l)[k]'h = l[k]'(by rw [bs_size] at h;exact h):=by
 show (bs l).data[k]'h = _
 simp [bs]
attribute [go_sem] bs_toL bs_size bs_toList bs_get
theorem bs_eta (s : ByteArray) : bs s.data.toList = s:=by cases s;simp [bs]

theorem ret_bool {a b : Bool} (h : a = b) : Ending.returned (.bool a) = .returned (.bool b):=by rw [h]
theorem ret_int {k : IntKind} {a b : Int} (h : a = b) : Ending.returned (.int k a) = .returned (.int k b):=by rw [h]
theorem ret_str {a b : ByteArray} (h : a = b) : Ending.returned (.string a) = .returned (.string b):=by rw [h]
abbrev Calm (w w' : World) : Prop:=Below w.heap.size w w'

theorem Calm.refl (w : World) : Calm w w:=Below.refl _ _
theorem Calm.trans {a b c : World} (h : Calm a b) (k : Calm b c) : Calm a c:=Below.trans h (Below.mono k h.size)
theorem Calm.drewN {a b : World} (h : Calm a b) (n : Nat) : Calm a (b.drewN n):=⟨h.os,h.tape,h.output,h.size,h.block⟩
theorem Calm.alloc {a b : World} (h : Calm a b) (o : Obj) : Calm a (b.alloc o):=Below.alloc h h.size o
structure StrsR (w : World) (A : Option Addr) (ls : List Str) : Prop where
 len : ls.length ≤ 4194304
 each : ∀ l ∈ ls,l.length ≤ 4194304
 at_ : 0 < ls.length → ∃ b o,A = some ⟨b,o,none⟩ ∧ b < w.heap.size ∧ ∀ k l,ls[k]? = some l → w.cell? ⟨b,o + k,none⟩ = some (.string (bs l))

theorem StrsR.calm {w w' : World} {A : Option Addr} {ls : List Str} (h : StrsR w A ls) (hc : Calm w w') : StrsR w' A ls:=
 ⟨h.len,h.each,fun h0=>by
  obtain ⟨b,o,rfl,hb,hk⟩:=h.at_ h0
  exact ⟨b,o,rfl,Nat.lt_of_lt_of_le hb hc.size,fun k l hl=>(hc.cell (p:=⟨b,o + k,none⟩) hb).trans (hk k l hl)⟩⟩
structure PatsR (w : World) (A : Option Addr) (ps : List Pat) : Prop where
 len : ps.length ≤ 4194304
 at_ : 0 < ps.length → ∃ b o,A = some ⟨b,o,none⟩ ∧ b < w.heap.size ∧ ∀ k p,ps[k]? = some p → ∃ Ak ck,w.cell? ⟨b,o + k * 2,none⟩ = some (.slice Ak p.parts.length ck) ∧ w.cell? ⟨b,o + k * 2 + 1,none⟩ = some (.bool p.rest) ∧ p.parts.length ≤ ck ∧ ck ≤ 9223372036854775807 ∧ StrsR w Ak p.parts

theorem PatsR.calm {w w' : World} {A : Option Addr} {ps : List Pat} (h : PatsR w A ps) (hc : Calm w w') : PatsR w' A ps:=
 ⟨h.len,fun h0=>by
  obtain ⟨b,o,rfl,hb,hk⟩:=h.at_ h0
  refine ⟨b,o,rfl,Nat.lt_of_lt_of_le hb hc.size,fun k p hp=>?_⟩
  obtain ⟨Ak,ck,h1,h2,h3,h5,h4⟩:=hk k p hp
  exact ⟨Ak,ck,(hc.cell (p:=⟨b,o + k * 2,none⟩) hb).trans h1,(hc.cell (p:=⟨b,o + k * 2 + 1,none⟩) hb).trans h2,h3,h5,h4.calm hc⟩⟩
structure StrsG (w : World) (A : Option Addr) (ls : List Str) : Prop where
 len : ls.length ≤ 140737488355328
 each : ∀ l ∈ ls,l.length ≤ 140737488355328
 at_ : 0 < ls.length → ∃ b o,A = some ⟨b,o,none⟩ ∧ b < w.heap.size ∧ ∀ k l,ls[k]? = some l → w.cell? ⟨b,o + k,none⟩ = some (.string (bs l))
theorem StrsG.calm {w w' : World} {A : Option Addr} {ls : List Str} (h : StrsG w A ls) (hc : Calm w w') : StrsG w' A ls:=
 ⟨h.len,h.each,fun h0=>by
  obtain ⟨b,o,rfl,hb,hk⟩:=h.at_ h0
  exact ⟨b,o,rfl,Nat.lt_of_lt_of_le hb hc.size,fun k l hl=>(hc.cell (p:=⟨b,o + k,none⟩) hb).trans (hk k l hl)⟩⟩
theorem StrsG.get {w : World} {A : Option Addr} {ls : List Str} (h : StrsG w A ls) {k : Nat} (hk : k < ls.length) : ∃ b o l,A = some ⟨b,o,none⟩ ∧ b < w.heap.size ∧ ls[k]? = some l ∧ l.length ≤ 140737488355328 ∧ w.cell? ⟨b,o + k,none⟩ = some (.string (bs l)):=by
 obtain ⟨b,o,hA,hb,hc⟩:=h.at_ (by omega)
 exact ⟨b,o,ls[k],hA,hb,List.getElem?_eq_getElem hk,h.each _ (List.getElem_mem hk),hc k _ (List.getElem?_eq_getElem hk)⟩
theorem StrsG.toR {w : World} {A : Option Addr} {ls : List Str} (h : StrsG w A ls) (h1 : ls.length ≤ 4194304) (h2 : ∀ l ∈ ls,l.length ≤ 4194304) : StrsR w A ls:=⟨h1,h2,h.at_⟩
structure StrsU (w : World) (A : Option Addr) (ls : List Str) : Prop where
 len : ls.length ≤ 8388608
 each : ∀ l ∈ ls,l.length ≤ 8388608
 at_ : 0 < ls.length → ∃ b o,A = some ⟨b,o,none⟩ ∧ b < w.heap.size ∧ ∀ k l,ls[k]? = some l → w.cell? ⟨b,o + k,none⟩ = some (.string (bs l))
theorem StrsU.toG {w : World} {A : Option Addr} {ls : List Str} (h : StrsU w A ls) : StrsG w A ls:=⟨by have:=h.len;omega,fun l hl=>by have:=h.each l hl;omega,h.at_⟩
theorem StrsU.calm {w w' : World} {A : Option Addr} {ls : List Str} (h : StrsU w A ls) (hc : Calm w w') : StrsU w' A ls:=⟨h.len,h.each,(h.toG.calm hc).at_⟩
theorem StrsU.toR {w : World} {A : Option Addr} {ls : List Str} (h : StrsU w A ls) (h1 : ls.length ≤ 4194304) (h2 : ∀ l ∈ ls,l.length ≤ 4194304) : StrsR w A ls:=⟨h1,h2,h.at_⟩
theorem StrsU.get {w : World} {A : Option Addr} {ls : List Str} (h : StrsU w A ls) {k : Nat} (hk : k < ls.length) : ∃ b o l,A = some ⟨b,o,none⟩ ∧ b < w.heap.size ∧ ls[k]? = some l ∧ l.length ≤ 8388608 ∧ w.cell? ⟨b,o + k,none⟩ = some (.string (bs l)):=by
 obtain ⟨b,o,hA,hb,hc⟩:=h.at_ (by omega)
 exact ⟨b,o,ls[k],hA,hb,List.getElem?_eq_getElem hk,h.each _ (List.getElem_mem hk),hc k _ (List.getElem?_eq_getElem hk)⟩
theorem StrsR.toU {w : World} {A : Option Addr} {ls : List Str} (h : StrsR w A ls) : StrsU w A ls:=⟨by have:=h.len;omega,fun l hl=>by have:=h.each l hl;omega,h.at_⟩
theorem StrsR.toG {w : World} {A : Option Addr} {ls : List Str} (h : StrsR w A ls) : StrsG w A ls:=h.toU.toG

end Go.Proofs.YthopphabeddnfaaGreatDoor
set_option linter.unusedVariables false
set_option linter.unusedSimpArgs false
namespace Go.Proofs.YthopphabeddnfaaGreatDoor
open Go Go.RowKit
structure CalmTo (v : World) where
 w : World
 h : Calm v w

instance (v : World) : Inhabited (CalmTo v):=⟨⟨v,Calm.refl v⟩⟩

theorem calmTo_iff {w w' : World} : (∃ p : CalmTo w,w' = p.w) ↔ Calm w w':=
 ⟨fun ⟨p,hp⟩=>hp ▸ p.h,fun h=>⟨⟨w',h⟩,rfl⟩⟩

theorem wp_region_calm {P : Program} {id : Nat} {Q : Exit → Act → World → Prop} {a : Act} {w : World} {l : List Oper} (hm : P.follows .mixedOrders = true) (hB : Region.lexB .any l.toArray = true)
  (h : wpQuiet P l.toArray (fun w'=>∃ p : CalmTo w,w' = p.w) (fun a'=>∀ w',Calm w w' → Q .normal a' w') l a) : (Code.region id l.toArray true).wp P Q a w:=by
 refine wp_region_quiet (C:=fun w'=>∃ p : CalmTo w,w' = p.w) hm hB ⟨⟨_,(Calm.refl w).drewN 1⟩,rfl⟩ ?_
 have e : (fun a'=>∀ w',(∃ p : CalmTo w,w' = p.w) → Q .normal a' w') = (fun a'=>∀ w',Calm w w' → Q .normal a' w'):=by
  funext a'
  simp only [calmTo_iff]
 rw [e]
 simpa using h
theorem calmOf {P : Program} {f : FuncId} {args : Array Value} {w : World} {p : CalmTo w} {v : Value} (h : Calls P f args p.w fun e w'=>e = .returned v ∧ Calm p.w w') : Calls P f args p.w fun e w''=>e = .returned v ∧ ∃ q : CalmTo w,w'' = q.w:=
 h.mono fun _ w'' ⟨he,hw⟩=>⟨he,⟨w'',p.h.trans hw⟩,rfl⟩
theorem CalmTo.cell {w : World} {b o : Nat} {v : Value} (h : w.cell? ⟨b,o,none⟩ = some v) (hb : b < w.heap.size) (p : CalmTo w) : p.w.cell? ⟨b,o,none⟩ = some v:=
 (p.h.cell (p:=⟨b,o,none⟩) hb).trans h
theorem Calm.at_ {w w' : World} (h : Calm w w') {b o : Nat} {v : Value} (hc : w.cell? ⟨b,o,none⟩ = some v) (hb : b < w.heap.size) : w'.cell? ⟨b,o,none⟩ = some v:=
 (h.cell (p:=⟨b,o,none⟩) hb).trans hc
end Go.Proofs.YthopphabeddnfaaGreatDoor
set_option linter.unusedVariables false
set_option linter.unusedSimpArgs false
namespace Go.Proofs.YthopphabeddnfaaGreatDoor
open Go Go.RowKit Sy
theorem owns_calm {w w' : World} {base : Nat} {e : TypeId} {size n : Nat} {v : Value} {xs : List Value} (h : w.ownsRow base e size v n xs) (hc : Calm w w') : w'.ownsRow base e size v n xs:=by
 obtain ⟨h1,h2⟩:=h
 refine ⟨h1,?_⟩
 rcases h2 with h2 | ⟨g,cap,cur,hv,hg,hh,r⟩
 ·exact .inl h2
 ·have hlt : g < w.heap.size:=by
   rcases Nat.lt_or_ge g w.heap.size with h | h
   ·exact h
   ·rw [Array.getElem?_eq_none h] at hh;cases hh
  exact .inr ⟨g,cap,cur,hv,hg,(hc.block g hlt).trans hh,r⟩
theorem owns_lt {w : World} {base : Nat} {e : TypeId} {size n : Nat} {v : Value} {xs : List Value} (h : w.ownsRow base e size v n xs) {k : Nat} (hk : v.ownBlock = some k) : base ≤ k ∧ k < w.heap.size:=by
 rcases h.2 with ⟨rfl,_⟩ | ⟨g,cap,cur,rfl,hg,hh,_⟩
 ·simp [Value.ownBlock] at hk
 ·have hlt : g < w.heap.size:=by
   rcases Nat.lt_or_ge g w.heap.size with h | h
   ·exact h
   ·rw [Array.getElem?_eq_none h] at hh;cases hh
  simp [Value.ownBlock] at hk
  subst hk
  exact ⟨hg,hlt⟩
theorem owns_below {w w' : World} {B : Nat} {e : TypeId} {size n : Nat} {v : Value} {xs : List Value} (h : w.ownsRow B e size v n xs) (hB : B ≤ w.heap.size) (hg : w.grownBy w' v.ownBlock) : Below B w w':=
 (Below.refl B w).grown hg hB (fun k hk=>(owns_lt h hk).1)

def strCells (ls : List Str) : List Value:=ls.map fun l=>.string (bs l)
theorem owns_strs {w : World} {base : Nat} {v : Value} {ls : List Str} (h : w.ownsRow base 9 1 v ls.length (strCells ls)) :
  ∃ A c,v = .slice A ls.length c ∧ ls.length ≤ c ∧ (0 < ls.length → ∃ g,A = some ⟨g,0,none⟩ ∧ base ≤ g ∧ g < w.heap.size ∧ ∀ (j : Nat) (l : Str),ls[j]? = some l → w.cell? ⟨g,j,none⟩ = some (.string (bs l))):=by
 rcases h.2 with ⟨rfl,h0⟩ | ⟨g,cap,cur,rfl,hg,hh,hcap,hm,hs,ht⟩
 ·exact ⟨none,0,by rw [h0],by omega,fun h=>by omega⟩
 ·have hlt : g < w.heap.size:=by
   rcases Nat.lt_or_ge g w.heap.size with h | h
   ·exact h
   ·rw [Array.getElem?_eq_none h] at hh;cases hh
  refine ⟨_,cap,rfl,hcap,fun _=>⟨g,rfl,hg,hlt,fun j l hl=>?_⟩⟩
  have:=h.cells (g:=g) rfl j (.string (bs l)) (by simp [strCells,hl])
  rw [Addr.add_lit] at this
  simpa using this
end Go.Proofs.YthopphabeddnfaaGreatDoor
set_option linter.unusedVariables false
set_option linter.unusedSimpArgs false
namespace Go.Proofs.YthopphabeddnfaaGreatDoor
open Go Go.RowKit Sy

theorem info_strE : (Tryz.prog.info? 9).map (fun i=>(i.zero,i.size,i.bytes)) = some (some (.string ByteArray.empty),1,16):=by kernel_rfl
structure OwnS (w0 w : World) (v : Value) (ls : List Str) : Prop where
 calm : Calm w0 w
 own : w.ownsRow w0.heap.size 9 1 v ls.length (strCells ls)

theorem OwnS.nil {w0 w : World} (h : Calm w0 w) : OwnS w0 w (.slice none 0 0) []:=⟨h,World.ownsRow_nil _ _ _ _⟩
theorem OwnS.to {w0 w w' : World} {v : Value} {ls : List Str} (h : OwnS w0 w v ls) (hc : Calm w w') : OwnS w0 w' v ls:=⟨h.calm.trans hc,owns_calm h.own hc⟩
theorem OwnS.strs {w0 w : World} {v : Value} {ls : List Str} (h : OwnS w0 w v ls) (h1 : ls.length ≤ 4194304) (h2 : ∀ l ∈ ls,l.length ≤ 4194304) : ∃ A c,v = .slice A ls.length c ∧ ls.length ≤ c ∧ StrsR w A ls:=by
 obtain ⟨A,c,hv,hc,hat⟩:=owns_strs h.own
 refine ⟨A,c,hv,hc,h1,h2,fun h0=>?_⟩
 obtain ⟨g,rfl,_,hg,hcells⟩:=hat h0
 exact ⟨g,0,rfl,hg,fun k l hl=>by rw [Nat.zero_add];exact hcells k l hl⟩
theorem new_str (v : World) {n : Nat} {l : Str} (h : v.heap.size = n) : (v.alloc (.cells #[.string (bs l)] 9)).cell? ⟨n,0,none⟩ = some (.string (bs l)):=by
 subst h
 rw [cell_of_row _ v.heap.size 0 _ _ _ (heap_alloc_new v _)]
 rfl
theorem wpList_append_str {ops : Array Oper} {rest : List Oper} {o : Oper} {a : Act} {Q : Exit → Act → World → Prop} {w : World} (hgd : o.guard = none) (s x : Operand)
  (ho : o.op = .call { callee:=.builtin .append,args:=#[s,x],argTypes:=#[35,35] }) (w0 : World) (v : Value) (ls : List Str) (hs : a.eval s = v) (hown : OwnS w0 w v ls)
  (b off c : Nat) (hx : a.eval x = .slice (some ⟨b,off,none⟩) 1 c) (l : Str) (hcell : w.cell? ⟨b,off,none⟩ = some (.string (bs l))) (hlen : ls.length ≤ 16000000)
  (h : ∀ v' w',OwnS w0 w' v' (ls ++ [l]) → w.grownBy w' v.ownBlock → wpList Tryz.prog ops Q rest (a.put o.dst v') w') : wpList Tryz.prog ops Q (o :: rest) a w:=by
 obtain ⟨i0,hi0,hz0,hz1,hz2⟩:=info_parts info_strE
 refine wpList_append_own w hgd s x 35 ho w0.heap.size 9 i0 _ 1 16 Tryz.underlying35 hi0 hz0 hz1 hz2 rfl (by decide) v ls.length (strCells ls) hs hown.own ⟨b,off,none⟩ 1 c [.string (bs l)] hx rfl (fun j u hj=>?_) (by simp [Value.oneCell']) (by unfold maxLen;omega) (by omega) hown.calm.size ?_
 ·cases j with
  |zero=>
   simp only [List.getElem?_cons_zero,Option.some.injEq] at hj
   subst hj
   simpa [Addr.add_lit] using hcell
  |succ j=>simp at hj
 ·intro v' w' ho' hg _
  refine h v' w' ⟨Below.trans hown.calm (owns_below hown.own hown.calm.size hg),?_⟩ hg
  rw [List.length_append]
  simpa [strCells] using ho'
structure MaxL (w : World) : Prop where
 lt : 0 < w.heap.size
 at_ : ∃ m : Int,w.cell? ⟨0,0,none⟩ = some (.int .i64 m)
theorem MaxL.calm {w w' : World} (h : MaxL w) (hc : Calm w w') : MaxL w':=
 ⟨Nat.lt_of_lt_of_le h.lt hc.size,by
  obtain ⟨m,hm⟩:=h.at_
  exact ⟨m,hc.at_ hm h.lt⟩⟩

def sep47 : ByteArray:=⟨#[47]⟩
theorem split_bs (s : Str) : Lib.splitB sep47 0 (Lib.countB (bs s) sep47) (bs s) = (slash s).map bs:=by
 have h:=Lib.splitB_data sep47 0 (Lib.countB (bs s) sep47) (bs s)
 have hc : Lib.countB (bs s) sep47 = Lib.count s [47]:=by
  show Lib.count (bs s).data.toList sep47.data.toList = _
  rw [bs_toList]
  rfl
 rw [bs_toList,hc] at h
 have hs : sep47.data.toList = [47]:=rfl
 rw [hs,splitK_slash] at h
 rw [hc,← h,List.map_map]
 have : (bs ∘ fun x : ByteArray=>x.data.toList) = id:=by funext x;exact bs_eta x
 rw [this,List.map_id]
theorem split_n (s : Str) : Lib.countB (bs s) sep47 + 1 = (slash s).length:=by
 have h:=Lib.splitB_all sep47 (by decide) 0 _ (bs s) rfl
 rw [split_bs,List.length_map] at h
 exact h.symm

theorem split_c (s : Str) (w : World) (hs : s.length ≤ 64000000) (hM : MaxL w) :
  Calls Tryz.prog 102 #[.string (bs s),.string ⟨#[47]⟩] w fun e w'=>e = .returned (.slice (some ⟨w.heap.size,0,none⟩) (slash s).length (slash s).length) ∧ Calm w w' ∧ StrsG w' (some ⟨w.heap.size,0,none⟩) (slash s):=by
 obtain ⟨m,hm⟩:=hM.at_
 refine (Tryz.strings_Split (bs s) sep47 m w (by rw [bs_size];omega) hm (by decide)).mono fun e w' ⟨he,hw⟩=>?_
 rw [split_bs] at hw
 rw [split_n] at he
 have hl:=slash_len s
 have he':=slash_each s
 refine ⟨he,hw ▸ (Calm.refl w).alloc _,by omega,fun l hl=>by have:=he' l hl;omega,fun _=>⟨w.heap.size,0,rfl,by rw [hw];simp,fun k l hk=>?_⟩⟩
 rw [hw,Nat.zero_add,cell_of_row _ w.heap.size k _ _ _ (heap_alloc_new w _)]
 simp [hk]
theorem bs_append (a b : Str) : bs (a ++ b) = bs a ++ bs b:=by
 apply ByteArray.ext
 apply Array.ext'
 simp [bs]
theorem join_len {K : Nat} (sep : Str) : ∀ ls : List Str,(∀ l ∈ ls,l.length ≤ K) → (Lib.join ls sep).length ≤ ls.length * (K + sep.length)
 |[],_=>by simp [Lib.join]
 |[a],h=>by
  have:=h a (by simp)
  simp [Lib.join]
  omega
 |a :: c :: t,h=>by
  have ih:=join_len sep (c :: t) (fun l hl=>h l (by simp [hl]))
  have h1:=h a (by simp)
  have e : Lib.join (a :: c :: t) sep = a ++ (sep ++ Lib.join (c :: t) sep):=by simp [Lib.join,List.intercalate]
  rw [e,List.length_append,List.length_append]
  have h2 : (a :: c :: t).length * (K + sep.length) = (c :: t).length * (K + sep.length) + (K + sep.length):=by simp [Nat.add_mul]
  rw [h2]
  omega
theorem join47_len {ls : List Str} (hl : ls.length ≤ 4200000) (hK : ∀ l ∈ ls,l.length ≤ 4200000) : (Lib.join ls [47]).length ≤ 17640004200000:=by
 have h1:=join_len [47] ls hK
 have h2 : ls.length * (4200000 + [47].length) ≤ 4200000 * 4200001:=Nat.mul_le_mul hl (Nat.le_refl _)
 exact Nat.le_trans h1 (Nat.le_trans h2 (by decide))
theorem join47_c (ls : List Str) (Bk c : Nat) (w : World) (hcells : ∀ (j : Nat) (l : Str),ls[j]? = some l → w.cell? ⟨Bk,j,none⟩ = some (.string (bs l))) (hB : Bk < w.heap.size) (hcap : ls.length ≤ c) (hl : ls.length ≤ 4200000) (hK : ∀ l ∈ ls,l.length ≤ 4200000) :
  Calls Tryz.prog 64 #[.slice (some ⟨Bk,0,none⟩) ls.length c,.string ⟨#[47]⟩] w fun e w'=>e = .returned (.string (bs (Lib.join ls [47]))) ∧ Calm w w':=by
 have hm : (ls.map bs).map (·.data.toList) = ls:=by
  rw [List.map_map]
  have : ((fun s : ByteArray=>s.data.toList) ∘ bs) = id:=by funext l;exact bs_toList l
  rw [this,List.map_id]
 have h:=Tryz.strings_Join Bk 0 c (ls.map bs) ⟨#[47]⟩ w (fun j x hx=>by
   rw [List.getElem?_map] at hx
   obtain ⟨l,h1,rfl⟩:=Option.map_eq_some_iff.1 hx
   rw [Nat.zero_add]
   exact hcells j l h1) hB (by rw [List.length_map];omega) (by rw [List.length_map];exact hcap) (by
   rw [hm]
   have h1:=join_len [47] ls hK
   have h2 : ls.length * (4200000 + [47].length) ≤ 4200000 * 4200001:=Nat.mul_le_mul hl (Nat.le_refl _)
   exact Nat.le_trans h1 (Nat.le_trans h2 (by decide)))
 rw [hm,List.length_map] at h
 exact h

theorem join_off_c (ls : List Str) (Bk off c : Nat) (w : World) (hcells : ∀ (j : Nat) (l : Str),ls[j]? = some l → w.cell? ⟨Bk,off + j,none⟩ = some (.string (bs l))) (hB : Bk < w.heap.size) (hcap : ls.length ≤ c) (hl : ls.length ≤ 4200000) (hK : ∀ l ∈ ls,l.length ≤ 4200000) :
  Calls Tryz.prog 64 #[.slice (some ⟨Bk,off,none⟩) ls.length c,.string ⟨#[47]⟩] w fun e w'=>e = .returned (.string (bs (Lib.join ls [47]))) ∧ Calm w w':=by
 have hm : (ls.map bs).map (·.data.toList) = ls:=by
  rw [List.map_map]
  have : ((fun s : ByteArray=>s.data.toList) ∘ bs) = id:=by funext l;exact bs_toList l
  rw [this,List.map_id]
 have h:=Tryz.strings_Join Bk off c (ls.map bs) ⟨#[47]⟩ w (fun j x hx=>by
   rw [List.getElem?_map] at hx
   obtain ⟨l,h1,rfl⟩:=Option.map_eq_some_iff.1 hx
   exact hcells j l h1) hB (by rw [List.length_map];omega) (by rw [List.length_map];exact hcap) (by
   rw [hm]
   have h1:=join_len [47] ls hK
   have h2 : ls.length * (4200000 + [47].length) ≤ 4200000 * 4200001:=Nat.mul_le_mul hl (Nat.le_refl _)
   exact Nat.le_trans h1 (Nat.le_trans h2 (by decide)))
 rw [hm,List.length_map] at h
 exact h

end Go.Proofs.YthopphabeddnfaaGreatDoor
