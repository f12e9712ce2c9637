/- The law that the entries of a view are a mapping that relates the same paths answers true for every input of at most 1048576 values and letters and leaves its arguments as they were. The two listed tables hold what the library lays. -/
import Derived.Test.YthopphabeddnfaaGreatDoorProg
import Derived.ProofKit
import Derived.OpenShut
import Derived.SizedLaws
import Derived.Deep.Strs
import Derived.Deep.Slices
import Derived.ChangeSame
import Derived.Test.YthopphabeddnfaaGreatDoorRows
import Derived.Test.YthopphabeddnfaaGreatDoorCards
import Derived.Test.YthopphabeddnfaaGreatDoorTie
import Derived.WalkKit
import Derived.Deep.DeepHandedRow
import Derived.Carry
import Derived.Lib.LaidTab
import GoSem.PinnedTables
import Derived.Test.YthopphabeddnfaaGreatDoorZStr
import Derived.Test.YthopphabeddnfaaGreatDoorZKinds
import Derived.Test.YthopphabeddnfaaGreatDoorZMapO
import Derived.Test.YthopphabeddnfaaGreatDoorZViewF
import Derived.Test.YthopphabeddnfaaGreatDoorZTurnV
import Derived.Test.YthopphabeddnfaaGreatDoorZBwdM
import Derived.Test.YthopphabeddnfaaGreatDoorZMapV
import Derived.Test.YthopphabeddnfaaGreatDoorZMapR
import Derived.Test.YthopphabeddnfaaGreatDoorZEntW
import Derived.Test.YthopphabeddnfaaGreatDoorZAwakeM
import Derived.Test.YthopphabeddnfaaGreatDoorZSmallM
import Derived.Test.YthopphabeddnfaaGreatDoorZCheckW
set_option linter.unusedVariables false
set_option linter.unusedSimpArgs false
namespace Go.Proofs.YthopphabeddnfaaGreatDoor
open Go Go.ChangeShapes Go.WideShapes Go.RowKit Go.Deep Sy

theorem cell_lt {w : World} {a : Addr} {v : Value} (h : w.cell? a = some v) : a.block < w.heap.size ∧ a.spot = none:=by
 unfold World.cell? at h
 split at h
 ·rename_i h1
  constructor
  ·rcases Nat.lt_or_ge a.block w.heap.size with h2 | h2
   ·exact h2
   ·rw [Array.getElem?_eq_none h2] at h1;cases h1
  ·split at h
   ·cases h
   ·rename_i h2;simpa using h2
 ·cases h

section
variable {H : Type} {enc : TypeId × Value → H} {w : World}

theorem u_strs : Tryz.prog.underlying 35 = some (.slice 9):=Tryz.underlying35
theorem u_str : Tryz.prog.underlying 9 = some .string:=Tryz.underlying9
theorem u_bool : Tryz.prog.underlying 4 = some .bool:=Tryz.underlying4
theorem c_str : Tryz.prog.cellsOf 9 = 1:=by kernel_rfl
theorem c_pat : Tryz.prog.cellsOf 37 = 2:=by kernel_rfl
set_option maxRecDepth 20000 in
theorem open_strD {v : Value} {b0 : Nat} {d : DataW H} {p : List MemPlace} (hv : Value.okWide Tryz.prog w .any b0 9 v) (h : DataW.Trod enc Tryz.prog w 0 (fun _=>true) true 9 v d p) :
  ∃ s : Str,v = .string (bs s) ∧ d = .lit (.string s) ∧ s.length ≤ 9223372036854775807:=by
 obtain ⟨s,rfl,hd,_,hs⟩:=Go.ChangeMaps.open_string Tryz.underlying9 hv h
 refine ⟨s.data.toList,by rw [bs_eta],hd,?_⟩
 have h2 : s.data.toList.length = s.size:=rfl
 rw [h2]
 exact hs
end
end Go.Proofs.YthopphabeddnfaaGreatDoor
set_option linter.unusedVariables false
set_option linter.unusedSimpArgs false
namespace Go.Proofs.YthopphabeddnfaaGreatDoor.bulks

theorem one_le {H : Type} (d : DataW H) : 1 ≤ Rows.uptoBulk d:=by
 cases d with
 |lit l=>cases l <;> simp [Rows.uptoBulk]
 |nil=>simp [Rows.uptoBulk]
 |ptr d=>simp [Rows.uptoBulk]
 |slice elems spare=>simp [Rows.uptoBulk]
 |agg parts=>simp [Rows.uptoBulk]
 |iface t d=>simp [Rows.uptoBulk]
 |map entries=>simp [Rows.uptoBulk]
 |held h=>simp [Rows.uptoBulk]
theorem part_le {H : Type} {d : DataW H} {l : List (DataW H)} (h : d ∈ l) : Rows.uptoBulk d ≤ Rows.uptoBulkAll l:=by
 induction l with
 |nil=>cases h
 |cons x r ih=>
  simp only [Rows.uptoBulkAll]
  cases List.mem_cons.1 h with
  |inl e=>subst e;omega
  |inr e=>have:=ih e;omega
theorem length_le {H : Type} (l : List (DataW H)) : l.length ≤ Rows.uptoBulkAll l:=by
 induction l with
 |nil=>simp [Rows.uptoBulkAll]
 |cons x r ih=>have:=one_le x;simp only [Rows.uptoBulkAll,List.length_cons];omega
theorem slice_le {H : Type} (elems spare : List (DataW H)) : elems.length + spare.length + 1 ≤ Rows.uptoBulk (.slice elems spare):=by
 have h1:=length_le elems
 have h2:=length_le spare
 simp only [Rows.uptoBulk]
 omega
theorem slice_elems {H : Type} (elems spare : List (DataW H)) : Rows.uptoBulkAll elems + 1 ≤ Rows.uptoBulk (.slice elems spare):=by
 simp only [Rows.uptoBulk]
 omega
theorem slice_part {H : Type} {d : DataW H} {elems spare : List (DataW H)} (h : d ∈ elems) : Rows.uptoBulk d ≤ Rows.uptoBulk (.slice elems spare):=by
 have h1:=part_le h
 have h2:=slice_elems elems spare
 omega
theorem agg_part {H : Type} {d : DataW H} {parts : List (DataW H)} (h : d ∈ parts) : Rows.uptoBulk d ≤ Rows.uptoBulk (.agg parts):=by
 have h1:=part_le h
 simp only [Rows.uptoBulk]
 omega
theorem all_part {H : Type} {d : DataW H} {l : List (DataW H)} {B : Nat} (hb : Rows.uptoBulkAll l ≤ B) (h : d ∈ l) : Rows.uptoBulk d ≤ B:=Nat.le_trans (part_le h) hb
theorem string_eq {H : Type} (bytes : List UInt8) : Rows.uptoBulk (DataW.lit (H:=H) (.string bytes)) = bytes.length + 1:=by
 simp [Rows.uptoBulk]
theorem lits_sum {H : Type} (f : Nat → List UInt8) : ∀ l : List Nat,((l.map f).map List.length).sum ≤ Rows.uptoBulkAll (l.map fun i=>DataW.lit (H:=H) (.string (f i)))
 |[]=>Nat.zero_le _
 |s :: r=>by
  have:=lits_sum (H:=H) f r
  simp only [List.map_cons,List.sum_cons,Rows.uptoBulkAll,Rows.uptoBulk]
  omega
end Go.Proofs.YthopphabeddnfaaGreatDoor.bulks
set_option linter.unusedVariables false
set_option linter.unusedSimpArgs false
namespace Go.Proofs.YthopphabeddnfaaGreatDoor
open Go Go.ChangeShapes Go.WideShapes Go.RowKit Go.Deep Sy
section
variable {H : Type} {enc : TypeId × Value → H} {w : World}
set_option maxRecDepth 20000 in
theorem open_strU {fuel : Nat} {cs : List Value} {x : DataW H × List MemPlace} (h : DataW.trod enc Tryz.prog w 0 (fun _=>true) true fuel 35 cs = some x) (hb : Rows.uptoBulk x.1 ≤ 1048576) :
  ∃ A ls c,cs = [.slice A (List.length ls) c] ∧ ls.length ≤ c ∧ c ≤ 140737488355328 ∧ StrsU w A ls ∧ (ls.map List.length).sum ≤ 1048576:=by
 rcases open_strs u_strs u_str c_str h with ⟨rfl,rfl⟩ | ⟨a,len,cap,m,Sx,rfl,_,hl,hm,hmm,rfl,hx⟩
 ·exact ⟨none,[],0,rfl,Nat.le_refl _,by decide,⟨by simp,(fun l hl=>by cases hl),(fun h0=>absurd h0 (Nat.lt_irrefl _))⟩,Nat.zero_le _⟩
 ·have hmc : m = cap:=hmm
  subst hmc
  have hs:=bulks.slice_le ((List.range len).map fun i=>DataW.lit (H:=H) (.string (Sx i).data.toList)) ((List.range (m - len)).map fun j=>.lit (.string (Sx (len + j)).data.toList))
  simp only [List.length_map,List.length_range] at hs
  have heach : ∀ i,i < len → (Sx i).data.toList.length ≤ 1048576:=fun i hi=>by
   have h1:=bulks.slice_part (spare:=(List.range (m - len)).map fun j=>DataW.lit (H:=H) (.string (Sx (len + j)).data.toList)) (List.mem_map.2 ⟨i,List.mem_range.2 hi,rfl⟩ : DataW.lit (H:=H) (.string (Sx i).data.toList) ∈ (List.range len).map fun i=>DataW.lit (H:=H) (.string (Sx i).data.toList))
   rw [bulks.string_eq] at h1
   have h2:=Nat.le_trans h1 hb
   omega
  have hcl : m ≤ 1048576:=by
   have h2:=Nat.le_trans hs hb
   omega
  have hsum : (((List.range len).map fun i=>(Sx i).data.toList).map List.length).sum ≤ 1048576:=
   Nat.le_trans (bulks.lits_sum (H:=H) (fun i=>(Sx i).data.toList) (List.range len)) (Nat.le_trans (Nat.le_of_succ_le (bulks.slice_elems ((List.range len).map fun i=>DataW.lit (H:=H) (.string (Sx i).data.toList)) ((List.range (m - len)).map fun j=>.lit (.string (Sx (len + j)).data.toList)))) hb)
  refine ⟨some a,(List.range len).map fun i=>(Sx i).data.toList,m,by simp,by simpa using hl,by omega,⟨by simp;omega,fun l hl2=>?_,fun h0=>?_⟩,hsum⟩
  ·obtain ⟨i,hi,rfl⟩:=List.mem_map.1 hl2
   exact Nat.le_trans (heach i (List.mem_range.1 hi)) (by decide)
  ·have h0' : 0 < len:=by simpa using h0
   obtain ⟨q1,q2⟩:=cell_lt (hx 0 (by omega)).1
   obtain ⟨ab,ao,asp⟩:=a
   have q3 : asp = none:=q2
   subst q3
   refine ⟨ab,ao,rfl,q1,fun k l hk=>?_⟩
   rw [List.getElem?_map] at hk
   obtain ⟨i,hi,rfl⟩:=Option.map_eq_some_iff.1 hk
   obtain ⟨hlt,he⟩:=List.getElem?_eq_some_iff.1 hi
   rw [List.getElem_range] at he
   subst he
   rw [List.length_range] at hlt
   have:=(hx k (by omega)).1
   rw [add_plain] at this
   rw [this,bs_eta]

set_option maxRecDepth 20000 in
theorem open_patU {fuel : Nat} {cs : List Value} {x : DataW H × List MemPlace} (h : DataW.trod enc Tryz.prog w 0 (fun _=>true) true fuel 37 cs = some x) (hb : Rows.uptoBulk x.1 ≤ 1048576) :
  ∃ (p : Pat) (A : Option Addr) (c : Nat),cs = [.slice A p.parts.length c,.bool p.rest] ∧ p.parts.length ≤ c ∧ c ≤ 140737488355328 ∧ StrsU w A p.parts ∧ (p.parts.map List.length).sum ≤ 1048576:=by
 obtain ⟨y0,y1,n,rfl,hlen,h0,h1⟩:=trod_struct2 Tryz.underlying37 h
 rw [c_pat] at hlen
 match cs,hlen with
 |[c0,c1],_=>
  have e0 : DataW.trod enc Tryz.prog w 0 (fun _=>true) true n 35 [c0] = some y0:=h0
  have e1 : DataW.trod enc Tryz.prog w 0 (fun _=>true) true n 4 [c1] = some y1:=h1
  obtain ⟨A,ls,c,g1,g2,g3,g4⟩:=open_strU e0 (Nat.le_trans (bulks.agg_part (by simp)) hb)
  obtain ⟨r,g5,_⟩:=DataW.trod_bool u_bool e1
  simp only [List.cons.injEq,and_true] at g1 g5
  subst g1
  subst g5
  exact ⟨⟨ls,r⟩,A,c,rfl,g2,g3,g4⟩

end
end Go.Proofs.YthopphabeddnfaaGreatDoor
set_option linter.unusedVariables false
set_option linter.unusedSimpArgs false
namespace Go.Proofs.YthopphabeddnfaaGreatDoor
open Go Go.ChangeShapes Go.WideShapes Go.RowKit Go.Deep Sy
section
variable {H : Type} {enc : TypeId × Value → H} {w : World}
theorem u_rules : Tryz.prog.underlying 22 = some (.slice 44):=Tryz.underlying22
theorem c_rule : Tryz.prog.cellsOf 44 = 5:=by kernel_rfl
def LetS (r : Rule) : Prop:=(r.left.parts.map List.length).sum ≤ 1048576 ∧ (r.right.parts.map List.length).sum ≤ 1048576
set_option maxRecDepth 20000 in
theorem open_ruleU {fuel : Nat} {cs : List Value} {x : DataW H × List MemPlace} (h : DataW.trod enc Tryz.prog w 0 (fun _=>true) true fuel 44 cs = some x) (hb : Rows.uptoBulk x.1 ≤ 1048576) :
  ∃ (r : Rule) (a : Pl),cs = [.bool r.excl,.slice a.AL r.left.parts.length a.cl,.bool r.left.rest,.slice a.AR r.right.parts.length a.cr,.bool r.right.rest] ∧ RuleU w a r ∧ LetS r:=by
 obtain ⟨y0,y1,y2,n,rfl,hlen,h0,h1,h2⟩:=trod_struct3 Tryz.underlying44 h
 rw [c_rule] at hlen
 match cs,hlen with
 |[c0,c1,c2,c3,c4],_=>
  have e0 : DataW.trod enc Tryz.prog w 0 (fun _=>true) true n 4 [c0] = some y0:=h0
  have e1 : DataW.trod enc Tryz.prog w 0 (fun _=>true) true n 37 [c1,c2] = some y1:=by simpa [c_pat] using h1
  have e2 : DataW.trod enc Tryz.prog w 0 (fun _=>true) true n 37 [c3,c4] = some y2:=by simpa [c_pat] using h2
  obtain ⟨r0,g0,_⟩:=DataW.trod_bool u_bool e0
  obtain ⟨p1,A1,k1,g1,g2,g3,g4⟩:=open_patU e1 (Nat.le_trans (bulks.agg_part (by simp)) hb)
  obtain ⟨p2,A2,k2,j1,j2,j3,j4⟩:=open_patU e2 (Nat.le_trans (bulks.agg_part (by simp)) hb)
  simp only [List.cons.injEq,and_true] at g0 g1 j1
  subst g0
  obtain ⟨rfl,rfl⟩:=g1
  obtain ⟨rfl,rfl⟩:=j1
  exact ⟨⟨r0,p1,p2⟩,⟨A1,k1,A2,k2⟩,rfl,⟨g4.1,j4.1,g2,j2,Nat.le_trans g3 (by decide),Nat.le_trans j3 (by decide)⟩,g4.2,j4.2⟩

set_option maxRecDepth 20000 in
theorem open_rulesU {fuel : Nat} {cs : List Value} {x : DataW H × List MemPlace} (h : DataW.trod enc Tryz.prog w 0 (fun _=>true) true fuel 22 cs = some x) (hb : Rows.uptoBulk x.1 ≤ 1048576) :
  ∃ A rs c,cs = [.slice A (List.length rs) c] ∧ rs.length ≤ c ∧ c ≤ 1048576 ∧ RulesU w A rs ∧ ∀ r ∈ rs,LetS r:=by
 rcases open_slice u_rules h with ⟨rfl,rfl⟩ | ⟨a,len,cap,m,n,D,Pq,rfl,_,hl,hm,hmm,rfl,hx⟩
 ·exact ⟨none,[],0,rfl,Nat.le_refl _,by decide,⟨by simp,(fun h0=>absurd h0 (Nat.lt_irrefl _))⟩,fun r hr=>by cases hr⟩
 ·have hmc : m = cap:=hmm
  subst hmc
  have hs:=bulks.slice_le ((List.range len).map D) ((List.range (m - len)).map fun j=>D (len + j))
  simp only [List.length_map,List.length_range] at hs
  have hcl : m ≤ 1048576:=by
   have h2:=Nat.le_trans hs hb
   omega
  have each : ∀ i,i < len → ∃ y : Rule × Pl,(∀ ab ao,a = ⟨ab,ao,none⟩ → RuleAt w ab (ao + i * 5) y.2 y.1) ∧ (RuleU w y.2 y.1 ∧ LetS y.1) ∧ (w.cell? (a.add (i * 5))).isSome = true:=fun i hi=>by
   obtain ⟨cs',hc,ht⟩:=hx i (by omega)
   rw [c_rule] at hc
   obtain ⟨r,p,rfl,g⟩:=open_ruleU ht (Nat.le_trans (bulks.slice_part (List.mem_map.2 ⟨i,List.mem_range.2 hi,rfl⟩)) hb)
   obtain ⟨_,_,hat⟩:=World.cells?_some hc
   have h0:=hat 0 (by decide)
   have h1:=hat 1 (by decide)
   have h2:=hat 2 (by decide)
   have h3:=hat 3 (by decide)
   have h4:=hat 4 (by decide)
   refine ⟨⟨r,p⟩,fun ab ao e=>?_,g,?_⟩
   ·subst e
    rw [add_plain] at h0 h1 h2 h3 h4
    rw [add_plain] at h0 h1 h2 h3 h4
    exact ⟨h0,h1,h2,h3,h4⟩
   ·have h5 : (a.add (i * 5)).add 0 = a.add (i * 5):=by simp [Addr.add]
    rw [h5] at h0
    rw [h0]
    rfl
  obtain ⟨R,hR⟩:=choose_lt each
  refine ⟨some a,(List.range len).map fun i=>(R i).1,m,by simp,by simpa using hl,hcl,⟨by simp;omega,fun h0=>?_⟩,fun r hr=>?_⟩
  case refine_2=>
   obtain ⟨i,hi,rfl⟩:=List.mem_map.1 hr
   exact (hR i (List.mem_range.1 hi)).2.1.2
  have h0' : 0 < len:=by simpa using h0
  obtain ⟨q0,hq0⟩:=Option.isSome_iff_exists.1 (hR 0 h0').2.2
  obtain ⟨q1,q2⟩:=cell_lt hq0
  obtain ⟨ab,ao,asp⟩:=a
  have q3 : asp = none:=q2
  subst q3
  refine ⟨ab,ao,rfl,q1,fun k r hk=>?_⟩
  rw [List.getElem?_map] at hk
  obtain ⟨i,hi,rfl⟩:=Option.map_eq_some_iff.1 hk
  obtain ⟨hlt,he⟩:=List.getElem?_eq_some_iff.1 hi
  rw [List.getElem_range] at he
  subst he
  rw [List.length_range] at hlt
  exact ⟨(R k).2,(hR k hlt).1 ab ao rfl,(hR k hlt).2.1.1⟩

set_option maxRecDepth 20000 in
theorem open_rulesL {v : Value} {b0 : Nat} {d : DataW H} {p : List MemPlace} (hv : Value.okWide Tryz.prog w .any b0 22 v) (h : DataW.Trod enc Tryz.prog w 0 (fun _=>true) true 22 v d p) (hb : Rows.uptoBulk d ≤ 1048576) :
  ∃ (A : Option Addr) (rs : List Rule) (c : Nat),v = .slice A rs.length c ∧ RulesU w A rs ∧ rs.length ≤ c ∧ c ≤ 1048576 ∧ ∀ r ∈ rs,LetS r:=by
 obtain ⟨a0,len,cap,rfl⟩:=okWide_slice Tryz.underlying22 hv
 obtain ⟨fuel,hf⟩:=h
 obtain ⟨A,rs,c,h1,h2,h3,h4,h5⟩:=open_rulesU hf hb
 simp only [Value.cells,List.cons.injEq,and_true] at h1
 exact ⟨A,rs,c,h1,h4,h2,h3,h5⟩
end
end Go.Proofs.YthopphabeddnfaaGreatDoor
set_option linter.unusedVariables false
set_option linter.unusedSimpArgs false
namespace Go.Proofs.YthopphabeddnfaaGreatDoor.Sy

theorem path_two {p : Pat} (hp : patErr p = 0) {l : List Str} (hm : matchL p l = true) : 2 ≤ l.length:=by
 obtain ⟨h0,h1,_⟩:=patErr_form hp
 have hr:=(matchL_true.1 hm).1
 unfold reaches at hr
 rcases hre : p.rest with _ | _
 ·rw [hre] at hr
  simp only [Bool.false_eq_true,if_false] at hr
  have:=beq_iff_eq.1 hr
  have:=h1 hre
  omega
 ·rw [hre] at hr
  simp only [if_true] at hr
  have:=of_decide_eq_true hr
  omega
theorem count_apart {α : Type} {p : α → Bool} : ∀ {m : List α},m.countP p ≤ 1 → Apart p m
 |[],_=>fun i j x y hi=>by simp at hi
 |a :: m,h=>fun i j x y hi hj hji=>by
  rw [List.countP_cons] at h
  rcases hx : p x && p y with _ | _
  ·rfl
  ·exfalso
   rw [Bool.and_eq_true] at hx
   obtain ⟨i',e⟩ : ∃ k,i = k + 1:=⟨i - 1,by omega⟩
   subst e
   have hi' : m[i']? = some x:=by simpa using hi
   cases j with
   |zero=>
    obtain rfl : a = y:=by simpa using hj
    rw [hx.2] at h
    have : 0 < m.countP p:=List.countP_pos_iff.2 ⟨x,List.mem_of_getElem? hi',hx.1⟩
    simp only [if_true] at h
    omega
   |succ j=>
    have hj' : m[j]? = some y:=by simpa using hj
    have h1 : m.countP p ≤ 1:=by
     have : (0 : Nat) ≤ if p a = true then 1 else 0:=Nat.zero_le _
     omega
    have:=count_apart h1 i' j x y hi' hj' (by omega)
    rw [hx.1,hx.2] at this
    cases this
theorem fwd_ent {x : Ent} (hr : ruleErr x.rule = 0) {l : List Str} (hc : l.all comp = true) (hm : matchL x.left l = true) : fwd x.rule (pathStr l) = some (pathStr (trL x.left x.right l)):=by
 have tx : Twin x.left x.right:=ruleErr_twin.1 hr
 unfold fwd
 rw [if_pos hr,pathOf_str (path_two tx.lp hm) hc]
 simp only
 rw [if_pos (show matchL x.rule.left l = true from hm)]
 rfl
theorem view_apart {v : List Rule} {es : List Ent} (hv : viewErr v = 0) (he : entsL v = some es) {l : List Str} (hc : l.all comp = true) : Apart (fun x : Ent=>hasG x.reg l) es:=by
 by_cases h2 : 2 ≤ l.length
 ·refine count_apart ?_
  rw [(ents_mean (pathOf_str h2 hc) hv he).2]
  split <;> omega
 ·intro i j x y hi hj _
  have hg:=(ents_good hv he).2 x (List.mem_of_getElem? hi)
  have hx : hasG x.reg l = false:=by
   rcases hh : hasG x.reg l with _ | _
   ·rfl
   ·have tx : Twin x.left x.right:=ruleErr_twin.1 hg.1
    exact absurd (path_two tx.lp (hasG_left hh)) h2
  simp only [hx,Bool.false_and]
theorem view_at {v : List Rule} {es : List Ent} (hv : viewErr v = 0) (he : entsL v = some es) {x : Ent} (hx : x ∈ es) {l : List Str} (hc : l.all comp = true) (hh : hasG x.reg l = true) : vfwd v (pathStr l) = some (pathStr (trL x.left x.right l)):=by
 have hg:=(ents_good hv he).2 x hx
 have tx : Twin x.left x.right:=ruleErr_twin.1 hg.1
 have hm:=hasG_left hh
 have h2:=path_two tx.lp hm
 rw [← (ents_mean (pathOf_str h2 hc) hv he).1]
 unfold byE
 rw [(view_apart hv he hc).find hx hh]
 exact fwd_ent hg.1 hc hm
theorem right_len {x : Ent} (hg : gErr x.reg = 0) {g : Reg} (h : rightG x = some g) : g.hs.length ≤ 64:=by
 obtain ⟨ks,hk,rfl⟩:=Option.map_eq_some_iff.1 h
 have h1:=(rightHs_good hk).2
 have h2 : x.hs.length ≤ 64:=(gErr_zero hg).2.2
 show ks.length ≤ 64
 omega
theorem view_clash {v : List Rule} {es : List Ent} (hv : viewErr v = 0) (he : entsL v = some es) {i j : Nat} {x y : Ent} (hi : es[i]? = some x) (hj : es[j]? = some y) (hji : j < i) (rx : ∃ g,rightG x = some g) (ry : ∃ g,rightG y = some g) : clashE x y = false:=by
 have hgx:=(ents_good hv he).2 x (List.mem_of_getElem? hi)
 have hgy:=(ents_good hv he).2 y (List.mem_of_getElem? hj)
 have lx : x.reg.hs.length ≤ 64:=(gErr_zero hgx.2.1).2.2
 have ly : y.reg.hs.length ≤ 64:=(gErr_zero hgy.2.1).2.2
 unfold clashE
 rw [Bool.or_eq_false_iff]
 constructor
 ·rcases h : commonG x.reg y.reg with _ | _
  ·rfl
  ·obtain ⟨l,hc,h1,h2⟩:=common_some (by omega) h
   have:=view_apart hv he hc i j x y hi hj hji
   simp only at this
   rw [h1,h2] at this
   cases this
 ·obtain ⟨gx,hgx'⟩:=rx
  obtain ⟨gy,hgy'⟩:=ry
  rw [(rG_some hgx').1,(rG_some hgy').1]
  rcases h : commonG gx gy with _ | _
  ·rfl
  ·exfalso
   have l1:=right_len hgx.2.1 hgx'
   have l2:=right_len hgy.2.1 hgy'
   obtain ⟨r,hc,h1,h2⟩:=common_some (by omega) h
   rw [← hasR'_rG hgx.1 hgx.2.1 hgx' hc] at h1
   rw [← hasR'_rG hgy.1 hgy.2.1 hgy' hc] at h2
   unfold hasR' at h1 h2
   rw [Bool.and_eq_true] at h1 h2
   have tx : Twin x.left x.right:=ruleErr_twin.1 hgx.1
   have ty : Twin y.left y.right:=ruleErr_twin.1 hgy.1
   obtain ⟨a1,a2,a3,a4⟩:=tr_twin tx.turn hc h1.1
   obtain ⟨b1,b2,b3,b4⟩:=tr_twin ty.turn hc h2.1
   have e1:=view_at hv he (List.mem_of_getElem? hi) a2 h1.2
   have e2:=view_at hv he (List.mem_of_getElem? hj) b2 h2.2
   rw [a4] at e1
   rw [b4] at e2
   have f1:=vfwd_back e1
   have f2:=vfwd_back e2
   rw [f1] at f2
   have e:=congrArg pathOf (Option.some.inj f2)
   rw [pathOf_str a3 a2,pathOf_str b3 b2] at e
   have e':=Option.some.inj e
   have:=view_apart hv he a2 i j x y hi hj hji
   simp only at this
   rw [h1.2,e',h2.2] at this
   cases this
theorem view_map {v : List Rule} {es : List Ent} (hv : viewErr v = 0) (he : entsL v = some es) : (mapE es).2 = 0 ∨ (mapE es).2 = 72:=by
 refine mapE_or (fun x hx=>⟨((ents_good hv he).2 x hx).1,((ents_good hv he).2 x hx).2.1⟩) fun hr=>?_
 rw [List.pairwise_iff_getElem]
 intro i j hi hj hij
 exact view_clash hv he (List.getElem?_eq_getElem hj) (List.getElem?_eq_getElem hi) hij (hr _ (List.getElem_mem hj)) (hr _ (List.getElem_mem hi))
theorem vfwd_path {v : List Rule} {s : Str} (hp : pathOf s = none) : vfwd v s = none:=by
 rcases h : vfwd v s with _ | t
 ·rfl
 ·obtain ⟨_,k,r,_,_,_,hf,_⟩:=vfwd_some.1 h
  unfold fwd at hf
  rw [hp] at hf
  split at hf <;> cases hf
theorem view_fwd {v : List Rule} {es : List Ent} (hv : viewErr v = 0) (he : entsL v = some es) (s : Str) : fwdM es s = vfwd v s:=by
 rcases hp : pathOf s with _ | l
 ·rw [vfwd_path hp]
  unfold fwdM
  rw [hp]
 ·have hc:=(pathOf_some hp).2.1
  rw [← (ents_mean hp hv he).1]
  unfold fwdM byE
  rw [hp]
  simp only
  rcases hf : es.find? (fun x=>hasG x.reg l) with _ | x
  ·rw [hf]
   rfl
  ·rw [hf]
   have hg:=(ents_good hv he).2 x (List.mem_of_find?_eq_some hf)
   have hh:=List.find?_some (p:=fun x : Ent=>hasG x.reg l) hf
   show some (pathStr (trL x.left x.right l)) = fwd x.rule s
   rw [pathStr_of hp,fwd_ent hg.1 hc (hasG_left hh)]
theorem view_bwd {v : List Rule} {es : List Ent} (hv : viewErr v = 0) (he : entsL v = some es) (hm : Mapping es) (s : Str) : bwdM es s = vbwd v s:=by
 rcases h1 : bwdM es s with _ | t
 ·rcases h2 : vbwd v s with _ | u
  ·rfl
  ·have h3:=vbwd_back h2
   rw [← view_fwd hv he] at h3
   rw [fwd_bwd hm h3] at h1
   cases h1
 ·have h3:=bwd_fwd hm h1
  rw [view_fwd hv he] at h3
  exact (vfwd_back h3).symm
end Go.Proofs.YthopphabeddnfaaGreatDoor.Sy
set_option linter.unusedVariables false
set_option linter.unusedSimpArgs false
namespace Go.Proofs.YthopphabeddnfaaGreatDoor
open Go Go.RowKit Sy

theorem mem_sum {x : Str} : ∀ {l : List Str},x ∈ l → x.length ≤ (l.map List.length).sum
 |a :: r,h=>by
  simp only [List.map_cons,List.sum_cons]
  rcases List.mem_cons.1 h with h | h
  ·subst h
   omega
  ·have:=mem_sum h
   omega
theorem fillR_sum (K : Nat) : ∀ (q cs : List Str),(∀ c ∈ cs,c.length ≤ K) → ((fillR q cs).map List.length).sum ≤ (q.map List.length).sum + q.length * K
 |[],cs,_=>Nat.zero_le _
 |x :: xs,cs,h=>by
  unfold fillR
  by_cases hs : isStar x = true
  ·rw [if_pos hs]
   have ih:=fillR_sum K xs cs.tail (fun c hc=>h c (List.mem_of_mem_tail hc))
   have hh : (cs.headD []).length ≤ K:=by
    cases cs with
    |nil=>exact Nat.zero_le _
    |cons a b=>exact h a List.mem_cons_self
   simp only [List.map_cons,List.sum_cons,List.length_append,List.length_cons,List.length_tail,Nat.succ_mul]
   omega
  ·rw [if_neg hs]
   have ih:=fillR_sum K xs cs h
   simp only [List.map_cons,List.sum_cons,List.length_cons,Nat.succ_mul]
   omega
theorem join_sum (b : List Str) : ∀ a : List Str,(Lib.join (a ++ b) [47]).length ≤ (a.map List.length).sum + a.length + (Lib.join b [47]).length
 |[]=>by simp
 |x :: a=>by
  have ih:=join_sum b a
  simp only [List.map_cons,List.sum_cons,List.cons_append,List.length_cons]
  rcases hab : a ++ b with _ | ⟨y,t⟩
  ·rw [join47_one]
   omega
  ·rw [join47_cons,← hab]
   simp only [List.length_append,List.length_cons]
   omega
theorem fwd_long {r : Rule} {s t : Str} (hsm : LetS r) (hs : s.length ≤ 300) (h : fwd r s = some t) : t.length ≤ 1060000:=by
 obtain ⟨l,h0,hp,hm,ht,_⟩:=fwd_some h
 have tw:=ruleErr_twin.1 h0
 have h12:=patErr_len tw.rp
 obtain ⟨h2,h3,h4⟩:=pathOf_some hp
 have hjl : (Lib.join l [47]).length ≤ 300:=by
  rw [h4] at hs
  simp only [pathStr,List.length_cons] at hs
  omega
 have hea : ∀ x ∈ l,x.length ≤ 300:=by
  have hh : l = slash (Lib.join l [47]):=(slash_join l (by rintro rfl;simp at h2) (fun x hx=>comp_no47 (List.all_eq_true.1 h3 x hx))).symm
  intro x hx
  rw [hh] at hx
  have:=slash_each _ x hx
  omega
 have hcs:=capsTo_each (p:=r.left) hea r.left.parts.length
 have hK:=fillR_sum 300 r.right.parts (capsTo r.left l r.left.parts.length) hcs
 have hfl:=fillR_len r.right.parts (capsTo r.left l r.left.parts.length)
 have hrest : (Lib.join (if r.right.rest then l.drop r.left.parts.length else []) [47]).length ≤ 300:=by
  split
  ·have:=join_drop_le r.left.parts.length l
   omega
  ·simp [Lib.join,List.intercalate]
 have hj:=join_sum (if r.right.rest then l.drop r.left.parts.length else []) (fillR r.right.parts (capsTo r.left l r.left.parts.length))
 have hq:=hsm.2
 rw [ht,pathStr,trL]
 simp only [List.length_cons]
 rw [hfl] at hj
 have : r.right.parts.length * 300 ≤ 12 * 300:=Nat.mul_le_mul h12 (Nat.le_refl _)
 omega
theorem LetS.turn {r : Rule} (h : LetS r) : LetS r.turn:=⟨h.2,h.1⟩
theorem letS_small {r : Rule} (h : LetS r) (h0 : ruleErr r = 0) : SmallV r:=by
 have tw:=ruleErr_twin.1 h0
 have h1:=patErr_len tw.lp
 have h2:=patErr_len tw.rp
 exact ⟨by omega,fun x hx=>Nat.le_trans (mem_sum hx) h.1,by omega,fun x hx=>Nat.le_trans (mem_sum hx) h.2⟩
theorem turn_smallB {v : List Rule} (h : ∀ r ∈ v,SmallV r) : ∀ r ∈ turnV v,SmallV r:=fun r hr=>by
 obtain ⟨q,hq,rfl⟩:=List.mem_map.1 hr
 exact (h q hq).turn
theorem turn_letS {v : List Rule} (h : ∀ r ∈ v,LetS r) : ∀ r ∈ turnV v,LetS r:=fun r hr=>by
 obtain ⟨q,hq,rfl⟩:=List.mem_map.1 hr
 exact (h q hq).turn
theorem vfwd_b (v : List Rule) (s : Str) (A : Option Addr) (n c : Nat) (w : World) (hs : s.length ≤ 300) (hM : MaxL w) (hv : RulesU w A v) (hsm : ∀ r ∈ v,SmallV r) (hls : ∀ r ∈ v,LetS r) (hn : v.length = n) :
  Calls Tryz.prog 9 #[.slice A n c,.string (bs s)] w fun e w'=>e = .returned (vfV v s) ∧ Calm w w':=
 vfwd_c v s A n c w (by omega) hM hv hsm hn (fun k r t _ hr hf=>by have:=fwd_long (hls r (List.mem_of_getElem? hr)) hs hf;omega)
set_option maxHeartbeats 1000000 in
theorem vbwd_b (v : List Rule) (s : Str) (A : Option Addr) (n c : Nat) (w : World) (hs : s.length ≤ 300) (hM : MaxL w) (hv : RulesU w A v) (hsm : ∀ r ∈ v,SmallV r) (hls : ∀ r ∈ v,LetS r) (hn : v.length = n) :
  Calls Tryz.prog 11 #[.slice A n c,.string (bs s)] w fun e w'=>e = .returned (vfV (turnV v) s) ∧ Calm w w':=by
 obtain ⟨u,hu⟩ : ∃ u,vfV (turnV v) s = u:=⟨_,rfl⟩
 rw [hu]
 have ht : Calls Tryz.prog 31 #[.slice A n c] w fun e w'=>(∃ A2 c2,e = .returned (.slice A2 n c2) ∧ RulesU w' A2 (turnV v)) ∧ Calm w w':=by
  have:=vturn_c v A n c w hv hn
  unfold TurnVEnd at this
  rw [hn] at this
  exact this
 have KF : Hid (∀ W A2 c2,Calm w W → RulesU W A2 (turnV v) → Calls Tryz.prog 9 #[.slice A2 n c2,.string (bs s)] W fun e w'=>e = .returned u ∧ Calm W w'):=fun W A2 c2 hW hr=>by
  rw [← hu]
  exact vfwd_b (turnV v) s A2 n c2 W hs (hM.calm hW) hr (turn_smallB hsm) (turn_letS hls) (by simp [turnV,hn])
 obtain ⟨x,y,hxy⟩ : ∃ x y,u = .tuple #[.string x,.bool y]:=⟨_,_,hu.symm⟩
 subst hxy
 clear hM hv hsm hn hls hu
 go_enter Tryz.func11,Tryz.ntmps11
 go_wp2_with (first
  |(go_at_call 31;refine ht.mono ?_;rintro e w2 ⟨⟨A2,c2,rfl,hr2⟩,hc2⟩)
  |(go_at_call 9;refine (KF.out w2 A2 c2 hc2 hr2).mono ?_;rintro e w3 ⟨rfl,hc3⟩))
 go_ret2
 exact ⟨rfl,hc2.trans hc3⟩
end Go.Proofs.YthopphabeddnfaaGreatDoor
set_option linter.unusedVariables false
set_option linter.unusedSimpArgs false
namespace Go.Proofs.YthopphabeddnfaaGreatDoor
open Go Go.RowKit Sy

theorem hasS_path {x : Ent} (hg : gErr x.reg = 0) {s : Str} {l : List Str} (hp : pathOf s = some l) : hasS x.left x.hs s = hasG x.reg l:=by
 rw [hasS_hasR (b:=x.left) (hs:=x.hs) (gErr_zero hg).1 (gErr_zero hg).2.1]
 unfold hasR
 rw [hp]
 rfl
theorem hasS_nopath {b : Pat} {hs : List Pat} {s : Str} (hp : pathOf s = none) : hasS b hs s = false:=by
 unfold hasS
 rw [matchS,hp]
 rfl
theorem hasG_match {x : Ent} {l : List Str} (h : hasG x.reg l = true) : matchL x.left l = true:=by
 unfold hasG hasL at h
 rw [Bool.and_eq_true] at h
 exact h.1
theorem fwd_path {r : Rule} (hr : ruleErr r = 0) {s : Str} {l : List Str} (hp : pathOf s = some l) : fwd r s = if matchL r.left l then some (pathStr (trL r.left r.right l)) else none:=by
 unfold fwd
 rw [if_pos hr,hp]
theorem fwd_nopath {r : Rule} {s : Str} (hp : pathOf s = none) : fwd r s = none:=by
 unfold fwd
 rw [hp]
 split <;> rfl
theorem find_congr {α : Type} {p q : α → Bool} : ∀ {l : List α},(∀ a ∈ l,p a = q a) → l.find? p = l.find? q
 |[],_=>rfl
 |a :: l,h=>by
  rw [List.find?_cons,List.find?_cons,h a List.mem_cons_self,find_congr fun b hb=>h b (List.mem_cons_of_mem _ hb)]
theorem bySE_fwdM {es : List Ent} (h : Mapping es) (s : Str) : bySE es s = fwdM es s:=by
 unfold bySE fwdM
 rcases hp : pathOf s with _ | l
 ·have : es.find? (fun x=>hasS x.left x.hs s) = none:=by
   rw [List.find?_eq_none]
   intro x hx
   rw [hasS_nopath hp]
   simp
  rw [this]
 ·have e : es.find? (fun x=>hasS x.left x.hs s) = es.find? fun x=>hasG x.reg l:=find_congr fun x hx=>hasS_path (h.good x hx).2 hp
  rw [e]
  rcases hf : es.find? (fun x=>hasG x.reg l) with _ | x
  ·simp only [hf]
   rfl
  ·have hx:=List.mem_of_find?_eq_some hf
   have hh:=List.find?_some (p:=fun x : Ent=>hasG x.reg l) hf
   simp only [hf,Option.map_some]
   rw [fwd_path (h.good x hx).1 hp,if_pos (show matchL x.rule.left l = true from hasG_match hh)]
   rfl
theorem bwE_path {x : Ent} (hr : ruleErr x.rule = 0) (hg : gErr x.reg = 0) {s : Str} {r : List Str} (hp : pathOf s = some r) : bwE x s = if hasR' r x then some (pathStr (trL x.right x.left r)) else none:=by
 have hc:=(pathOf_some hp).2.1
 have tw : Sy.Twin x.left x.right:=ruleErr_twin.1 hr
 unfold bwE
 rw [fwd_path ((turn_err x.rule).2 hr) hp]
 show Option.filter _ (if matchL x.right r then some (pathStr (trL x.right x.left r)) else none) = _
 unfold hasR'
 rcases hm : matchL x.right r with _ | _
 ·rfl
 ·obtain ⟨t1,t2,t3,t4⟩:=tr_twin tw.turn hc hm
  simp only [if_true,Bool.true_and,Option.filter,hasS_path hg (pathOf_str t3 t2)]
theorem bwS_bwdM {es : List Ent} (h : Mapping es) (s : Str) : bwS es s = bwdM es s:=by
 unfold bwS bwdM
 rcases hp : pathOf s with _ | r
 ·rw [List.findSome?_eq_none_iff]
  intro x hx
  exact bwE_no (fwd_nopath hp)
 ·simp only
  have key : ∀ es : List Ent,(∀ x ∈ es,ruleErr x.rule = 0 ∧ gErr x.reg = 0) → es.findSome? (fun x=>bwE x s) = (es.find? (hasR' r)).map fun x=>pathStr (trL x.right x.left r):=fun es=>by
   induction es with
   |nil=>intro _;rfl
   |cons x es ih=>
    intro hg
    have hx:=hg x List.mem_cons_self
    rw [List.findSome?_cons,List.find?_cons,bwE_path hx.1 hx.2 hp]
    rcases hh : hasR' r x with _ | _
    ·simp only [Bool.false_eq_true,if_false]
     exact ih fun y hy=>hg y (List.mem_cons_of_mem _ hy)
    ·simp
  exact key es h.good
def mfS (es : List Ent) (s : Str) : Option Str:=if (mapE es).2 = 0 then fwdM es s else none
def mbS (es : List Ent) (s : Str) : Option Str:=if (mapE es).2 = 0 then bwdM es s else none
def optV (o : Option Str) : Value:=.tuple #[.string (bs (o.getD [])),.bool o.isSome]
theorem mfV_eq (es : List Ent) (s : Str) : mfV es s = optV (mfS es s):=by
 unfold mfV mfS
 by_cases h : (mapE es).2 = 0
 ·rw [if_pos h,if_pos h]
  unfold byV optV
  rw [bySE_fwdM (mapE_zero h).1]
 ·rw [if_neg h,if_neg h]
  rfl
theorem mbV_eq (es : List Ent) (s : Str) : mbV es s = optV (mbS es s):=by
 unfold mbV mbS
 by_cases h : (mapE es).2 = 0
 ·rw [if_pos h,if_pos h]
  unfold bwV optV
  rw [bwS_bwdM (mapE_zero h).1]
 ·rw [if_neg h,if_neg h]
  rfl
end Go.Proofs.YthopphabeddnfaaGreatDoor
set_option linter.unusedVariables false
set_option linter.unusedSimpArgs false
namespace Go.Proofs.YthopphabeddnfaaGreatDoor
open Go Go.RowKit Sy

theorem strsU_of {w : World} {A : Option Addr} {ls : List Str} (h : StrsR w A ls) (hl : ls.length ≤ 1048576) : StrsU w A ls:=⟨Nat.le_trans hl (by decide),fun l hh=>Nat.le_trans (h.each l hh) (by decide),h.at_⟩
theorem entA_of {w : World} {z : NewE} (h : EntU w z) (h1 : z.e.left.parts.length ≤ 12) (h2 : z.e.right.parts.length ≤ 12) (h3 : z.e.hs.length ≤ 64) (h4 : ∀ p ∈ z.e.hs,p.parts.length ≤ 12) : EntA w z:=by
 refine ⟨strsU_of h.l.r (by omega),strsU_of h.r.r (by omega),⟨by omega,fun h0=>?_⟩,h.l.room,h.r.room,h.room,h.l.cap,h.r.cap,h.cap⟩
 obtain ⟨b,o,hA,hb,hk⟩:=h.h.at_ h0
 refine ⟨b,o,hA,hb,fun k p hp=>?_⟩
 obtain ⟨Ak,ck,g1,g2,g3,g5,g4⟩:=hk k p hp
 exact ⟨Ak,ck,g1,g2,g3,g5,strsU_of g4 (by have:=h4 p (List.mem_of_getElem? hp);omega)⟩
theorem entsA_view {v : List Rule} {es : List Ent} {w : World} {A : Option Addr} (hv : viewErr v = 0) (he : entsL v = some es) (h : EntsR w A es) (hl : es.length ≤ 1048576) : EntsA w A es:=by
 obtain ⟨zs,h1,h2,h3⟩:=h
 refine ⟨hl,zs,h1,h2,fun z hz=>?_⟩
 obtain ⟨g1,g2,_⟩:=(ents_good hv he).2 z.e (by rw [← h1];exact List.mem_map.2 ⟨z,hz,rfl⟩)
 have tx : Sy.Twin z.e.left z.e.right:=ruleErr_twin.1 g1
 obtain ⟨_,k2,k3⟩:=gErr_zero g2
 exact entA_of (h3 z hz) (patErr_len tx.lp) (patErr_len tx.rp) k3 (fun p hp=>patErr_len (k2 p hp))
theorem view_few {v : List Rule} {es : List Ent} (hv : viewErr v = 0) (he : entsL v = some es) : ∀ x ∈ es,(patsOf x).length ≤ 1048578 ∧ ∀ p ∈ patsOf x,p.parts.length ≤ 1048576:=fun x hx=>by
 obtain ⟨g1,g2,_⟩:=(ents_good hv he).2 x hx
 have tx : Sy.Twin x.left x.right:=ruleErr_twin.1 g1
 obtain ⟨_,k2,k3⟩:=gErr_zero g2
 have k4 : x.hs.length ≤ 64:=k3
 refine ⟨by simp only [patsOf,List.length_cons];omega,fun p hp=>?_⟩
 have h12 : p.parts.length ≤ 12:=by
  rcases List.mem_cons.1 hp with rfl | hp
  ·exact patErr_len tx.lp
  ·rcases List.mem_cons.1 hp with rfl | hp
   ·exact patErr_len tx.rp
   ·exact patErr_len (k2 p hp)
 omega
theorem smallK5 (es : List Ent) (n c : Nat) (A : Option Addr) (w : World) (h : EntsA w A es) (hcn : n ≤ c) (hcc : c ≤ 9223372036854775807) (hn : es.length = n) (hall : ∀ x ∈ es,(patsOf x).length ≤ 1048578 ∧ ∀ p ∈ patsOf x,p.parts.length ≤ 1048576) :
  Calls Tryz.prog 6 #[.slice A n c] w fun e w'=>(∃ b,e = .returned (.bool b) ∧ (b = true → ∀ x ∈ es,SizeE 60 x)) ∧ Calm w w':=
 (smallM_c es n c A w h hcn hcc hn hall).mono fun e w' ⟨⟨b,h1,h2⟩,h3⟩=>⟨⟨b,h1,fun hb=>(h2 hb).2⟩,h3⟩
theorem mf_view {v : List Rule} {es : List Ent} (hv : viewErr v = 0) (he : entsL v = some es) (hm : (mapE es).2 = 0) (s : Str) : mfV es s = vfV v s:=by
 rw [mfV_eq]
 unfold mfS
 rw [if_pos hm,view_fwd hv he]
 rfl
theorem mb_view {v : List Rule} {es : List Ent} (hv : viewErr v = 0) (he : entsL v = some es) (hm : (mapE es).2 = 0) (s : Str) : mbV es s = vfV (turnV v) s:=by
 rw [mbV_eq]
 unfold mbS
 rw [if_pos hm,view_bwd hv he (mapE_zero hm).1]
 rfl

set_option maxRecDepth 100000 in
set_option maxHeartbeats 8000000 in
theorem mappingOfView_c (v : List Rule) (s : Str) (A : Option Addr) (n c : Nat) (w : World) (hv : RulesU w A v) (hls : ∀ r ∈ v,LetS r) (hn : v.length = n) (hnc : n ≤ c) (hcc : c ≤ 1048576) (hsl : s.length ≤ 1048576) (hM : MaxL w) :
  Calls Tryz.prog 3 #[.slice A n c,.string (bs s)] w fun e w'=>e = .returned (.bool true) ∧ Calm w w':=by
 have KA : Hid (∀ W,Calm w W → Calls Tryz.prog 4 #[] W fun e w'=>e = .returned (.bool true) ∧ Calm W w'):=fun W hW=>awakeM_c W (hM.calm hW)
 have hsz : (bs s).size = s.length:=bs_size s
 by_cases h20 : 20 < n
 ·clear hv hls hn hM
  have h20' : (20 : Int) < (n : Int):=by omega
  go_enter Tryz.func3,Tryz.ntmps3
  go_wp2_with (go_at_call 4;refine (KA.out _ (Calm.refl _)).mono ?_;rintro e w2 ⟨rfl,hc2⟩)
  go_ret
  exact ⟨rfl,hc2⟩
 ·by_cases h300 : 300 < s.length
  ·clear hv hls hn hM
   have h20' : ¬ (20 : Int) < (n : Int):=by omega
   have h300' : (300 : Int) < (s.length : Int):=by omega
   go_enter Tryz.func3,Tryz.ntmps3
   go_wp2_with (go_at_call 4;refine (KA.out _ (Calm.refl _)).mono ?_;rintro e w2 ⟨rfl,hc2⟩)
   go_ret
   exact ⟨rfl,hc2⟩
  ·have h20' : ¬ (20 : Int) < (n : Int):=by omega
   have h300' : ¬ (300 : Int) < (s.length : Int):=by omega
   have hsmv : viewErr v = 0 → ∀ r ∈ v,SmallV r:=fun h r hr=>letS_small (hls r hr) ((viewErr_ok.1 h).1 r hr)
   have KE:=entries_c v A n c w hv hsmv hn (by omega) hnc (by omega)
   obtain ⟨⟨es,x⟩,hX⟩ : ∃ X,entE v = X:=⟨_,rfl⟩
   rw [hX] at KE
   have HV:=Lib.hid hv
   have HLs:=Lib.hid hls
   have HN:=Lib.hid hn
   have HM:=Lib.hid hM
   have HX:=Lib.hid hX
   have HSm:=Lib.hid hsmv
   have HS3 : Hid (s.length ≤ 300):=by
    show s.length ≤ 300
    omega
   clear hv hls hn hM hX hsmv
   go_enter Tryz.func3,Tryz.ntmps3
   go_wp2_with fail
   refine KE.mono ?_
   rintro e w2 ⟨hE,hc2⟩
   have HC2 : Hid (Calm w w2):=hc2
   clear hc2 KE
   rcases hE with ⟨_,hx0,rfl⟩ | ⟨hx0,A1,c1,rfl,hR,g1,g2⟩
   ·have hxb : (x != 0) = true:=by simpa using hx0
    clear hx0
    go_wp2_with (go_at_call 4;refine (KA.out w2 HC2.out).mono ?_;rintro e w3 ⟨rfl,hc3⟩)
    go_ret
    exact ⟨rfl,HC2.out.trans hc3⟩
   ·simp only at hx0 hR g1
    have hve : viewErr v = 0 ∧ entsL v = some es:=by
     have:=HX.out
     unfold entE at this
     by_cases h0 : viewErr v = 0
     ·rw [if_neg (by simpa using h0)] at this
      rcases he : entsL v with _ | es'
      ·rw [he] at this
       have h2:=congrArg Prod.snd this
       simp only at h2
       omega
      ·rw [he] at this
       obtain rfl : es' = es:=congrArg Prod.fst this
       exact ⟨h0,rfl⟩
     ·rw [if_pos (by simpa using h0)] at this
      have h2 : viewErr v = x:=congrArg Prod.snd this
      exact absurd (h2.trans hx0) h0
    have hel : es.length ≤ 20:=by
     have h1:=(ents_good hve.1 hve.2).1
     have h2:=HN.out
     omega
    obtain ⟨m,hm⟩ : ∃ m,es.length = m:=⟨_,rfl⟩
    have HEs : Hid (EntsA w2 A1 es):=entsA_view hve.1 hve.2 hR (by omega)
    rw [hm] at g1
    have HR : Hid (m ≤ c1 ∧ c1 ≤ 9223372036854775807 ∧ es.length = m):=⟨g1,g2,hm⟩
    have HVe:=Lib.hid hve
    have KS:=Lib.hid (smallK5 es m c1 A1 w2 HEs.out g1 g2 hm (view_few hve.1 hve.2))
    have hm20 : m ≤ 20:=by omega
    rw [hm]
    clear hR g1 g2 hve hm hx0 hel
    go_wp2_with fail
    refine KS.out.mono ?_
    rintro e w3 ⟨⟨bb,rfl,hb⟩,hc3⟩
    have HB:=Lib.hid hb
    have HC3 : Hid (Calm w w3):=HC2.out.trans hc3
    have HC23 : Hid (Calm w2 w3):=hc3
    clear hb hc3 KS
    cases bb with
    |false=>
     go_wp2_with (go_at_call 4;refine (KA.out w3 HC3.out).mono ?_;rintro e w4 ⟨rfl,hc4⟩)
     go_ret
     exact ⟨rfl,HC3.out.trans hc4⟩
    |true=>
     have HSe : Hid (∀ y ∈ es,SmallE y):=fun y hy=>(HB.out rfl y hy).mono (by decide)
     obtain ⟨ix,hix⟩ : ∃ ix,(mapE es).1 = ix:=⟨_,rfl⟩
     obtain ⟨er,her⟩ : ∃ er,(mapE es).2 = er:=⟨_,rfl⟩
     have KC : Hid (Calls Tryz.prog 7 #[.slice A1 m c1] w3 fun e w'=>e = .returned (.tuple #[.int .i64 (ix : Nat),.int .i64 er]) ∧ Calm w3 w'):=by
      have:=check_c es m c1 A1 w3 (HEs.out.calm HC23.out) HR.out.1 HR.out.2.1 HSe.out HR.out.2.2
      rw [hix,her] at this
      exact this
     have hmo:=view_map HVe.out.1 HVe.out.2
     rw [her] at hmo
     have HEr:=Lib.hid her
     clear hix her
     go_wp2_with fail
     refine KC.out.mono ?_
     rintro e w4 ⟨rfl,hc4⟩
     have HC4 : Hid (Calm w w4):=HC3.out.trans hc4
     have HC24 : Hid (Calm w2 w4):=HC23.out.trans hc4
     clear hc4 KC
     rcases hmo with rfl | rfl
     ·obtain ⟨ft,hft⟩ : ∃ ft,bs ((vfwd v s).getD []) = ft:=⟨_,rfl⟩
      obtain ⟨fo,hfo⟩ : ∃ fo,(vfwd v s).isSome = fo:=⟨_,rfl⟩
      obtain ⟨bt,hbt⟩ : ∃ bt,bs ((vfwd (turnV v) s).getD []) = bt:=⟨_,rfl⟩
      obtain ⟨bo,hbo⟩ : ∃ bo,(vfwd (turnV v) s).isSome = bo:=⟨_,rfl⟩
      have eF : vfV v s = .tuple #[.string ft,.bool fo]:=by rw [vfV,hft,hfo]
      have eB : vfV (turnV v) s = .tuple #[.string bt,.bool bo]:=by rw [vfV,hbt,hbo]
      have KF1 : Hid (∀ W,Calm w2 W → Calls Tryz.prog 8 #[.slice A1 m c1,.string (bs s)] W fun e w'=>e = .returned (.tuple #[.string ft,.bool fo]) ∧ Calm W w'):=fun W hW=>by
       have:=mfwd_c es s m c1 A1 W (HEs.out.calm hW) HR.out.1 HR.out.2.1 HR.out.2.2 HSe.out (by have:=HS3.out;omega) (HM.out.calm (HC2.out.trans hW))
       rw [mf_view HVe.out.1 HVe.out.2 HEr.out,eF] at this
       exact this
      have KB1 : Hid (∀ W,Calm w2 W → Calls Tryz.prog 10 #[.slice A1 m c1,.string (bs s)] W fun e w'=>e = .returned (.tuple #[.string bt,.bool bo]) ∧ Calm W w'):=fun W hW=>by
       have:=mbwd_c es s m c1 A1 W (HEs.out.calm hW) HR.out.1 HR.out.2.1 HR.out.2.2 HSe.out HS3.out (HM.out.calm (HC2.out.trans hW))
       rw [mb_view HVe.out.1 HVe.out.2 HEr.out,eB] at this
       exact this
      have KF2 : Hid (∀ W,Calm w W → Calls Tryz.prog 9 #[.slice A n c,.string (bs s)] W fun e w'=>e = .returned (.tuple #[.string ft,.bool fo]) ∧ Calm W w'):=fun W hW=>by
       have:=vfwd_b v s A n c W HS3.out (HM.out.calm hW) (HV.out.calm hW) (HSm.out HVe.out.1) HLs.out HN.out
       rw [eF] at this
       exact this
      have KB2 : Hid (∀ W,Calm w W → Calls Tryz.prog 11 #[.slice A n c,.string (bs s)] W fun e w'=>e = .returned (.tuple #[.string bt,.bool bo]) ∧ Calm W w'):=fun W hW=>by
       have:=vbwd_b v s A n c W HS3.out (HM.out.calm hW) (HV.out.calm hW) (HSm.out HVe.out.1) HLs.out HN.out
       rw [eB] at this
       exact this
      clear hft hfo hbt hbo eF eB
      go_wp2_with fail
      refine (KF1.out w4 HC24.out).mono ?_
      rintro e w5 ⟨rfl,hc5⟩
      have HC5 : Hid (Calm w w5):=HC4.out.trans hc5
      have HC25 : Hid (Calm w2 w5):=HC24.out.trans hc5
      clear hc5
      go_wp2_with fail
      refine (KF2.out w5 HC5.out).mono ?_
      rintro e w6 ⟨rfl,hc6⟩
      have HC6 : Hid (Calm w w6):=HC5.out.trans hc6
      have HC26 : Hid (Calm w2 w6):=HC25.out.trans hc6
      clear hc6
      go_wp2_with fail
      refine (KB1.out w6 HC26.out).mono ?_
      rintro e w7 ⟨rfl,hc7⟩
      have HC7 : Hid (Calm w w7):=HC6.out.trans hc7
      clear hc7
      go_wp2_with fail
      refine (KB2.out w7 HC7.out).mono ?_
      rintro e w8 ⟨rfl,hc8⟩
      have HC8 : Hid (Calm w w8):=HC7.out.trans hc8
      clear hc8
      go_wp2_with (go_at_call 4;refine (KA.out w8 HC8.out).mono ?_;rintro e w9 ⟨rfl,hc9⟩)
      go_ret
      exact ⟨rfl,HC8.out.trans hc9⟩
     ·go_wp2_with (go_at_call 4;refine (KA.out w4 HC4.out).mono ?_;rintro e w5 ⟨rfl,hc5⟩)
      go_ret
      exact ⟨rfl,HC4.out.trans hc5⟩
end Go.Proofs.YthopphabeddnfaaGreatDoor
set_option linter.unusedVariables false
set_option linter.unusedSimpArgs false
namespace Go.Proofs.YthopphabeddnfaaGreatDoor
open Go.ChangeShapes Go.WideShapes Go.ChangeAt Go.RowKit

theorem fact_and {a b : Bool} (ha : a = true) (hb : b = true) : (a && b) = true:=by rw [ha,hb];rfl
theorem fact1 : (laidOutB Tryz.pinned.checked.prog) = true:=by kernel_rfl
theorem fact2 : (mapsRowed Tryz.pinned.checked.prog) = true:=by kernel_rfl
theorem fact6 : ((Tryz.pinned.checked.prog.stops == [])) = true:=by kernel_rfl
theorem fact8 : ((Tryz.pinned.checked.prog.stopKnobs == [])) = true:=by kernel_rfl
theorem fact22 : ((Rows.mappingOfViewUptoRow.plainKeys == Tryz.pinned.checked.prog.plainKeys)) = true:=by kernel_rfl
theorem fact24 : (Tryz.pinned.checked.prog.stopsHeard) = true:=by kernel_rfl
theorem fact25 : (Tryz.pinned.checked.prog.mayEnter) = true:=by kernel_rfl
theorem fact26 : ((Rows.mappingOfViewUptoRow.lifted == Tryz.pinned.checked.prog.liftsFinal)) = true:=by kernel_rfl
theorem fact27 : ((Tryz.pinned.checked.prog.make == some Rows.mappingOfViewUptoRow.make)) = true:=by kernel_rfl
theorem factLooks : false = Tryz.pinned.checked.prog.looks []:=by kernel_rfl
end Go.Proofs.YthopphabeddnfaaGreatDoor
set_option linter.unusedVariables false
set_option linter.unusedSimpArgs false
namespace Go.Proofs.YthopphabeddnfaaGreatDoor.mappingOfViewUpto
open Go.ChangeShapes Go.WideShapes Go.ChangeAt Go.RowKit Sy

theorem own : ownKnob Tryz.prog.godebug = none:=by kernel_rfl
theorem laidOut : laidOutB Tryz.prog = true:=by kernel_rfl
def accZ : List Int:=[128,191,160,191,128,159,144,191,128,143,0,0,0,0,0,0,0,0,0,0,0,0,0,0,0,0,0,0,0,0,0,0]

theorem maxL {W : World} (h : W.ShapedOpen Tryz.prog) : MaxL W:=by
 obtain ⟨m,hm⟩:=Tryz.laysM146.s1_3 W h
 exact ⟨(cell_lt hm).1,m,hm⟩

set_option maxRecDepth 100000 in
theorem contract (H : Type) (enc : TypeId × Value → H) (W : World) (base : Nat) (args : Array Value) (ds gs : List (DataW H)) (before : List MemPlace)
  (hval : ∀ (j : Nat) t v,Tryz.f3.params[j]? = some t → args[j]? = some v → Value.okWide Tryz.prog W .any base t v)
  (hW : DataW.Whole enc Tryz.prog Tryz.f3.params.toList Rows.mappingOfViewSpec.vars false W args.toList ds gs before)
  (hsz : (DataW.weightsEach Tryz.prog (Tryz.f3.params.toList ++ ((OpenSpec.ofChange Rows.mappingOfViewSpec).bare.plain.varTypes Tryz.prog)) (ds ++ gs)).all (· ≤ reachBytes) = true) (hk : Rows.uptoSmall H (ds ++ gs) = true) (hL : laidMetH Tryz.prog Rows.mappingOfViewUptoRow.laid W) (hsh : W.ShapedOpen Tryz.prog) :
  Calls Tryz.prog 3 args W fun e W'=>∃ v,e = .returned v ∧ Rows.mappingOfViewSpec.post enc Tryz.prog Tryz.f3 false true false false W args v W':=by
 have hW':=hW
 obtain ⟨p,q,hA0,hV,rfl,hfz,hnd⟩:=hW
 have hA : DataW.TrodAll enc Tryz.prog W 0 (fun _=>true) true Tryz.f3.params.toList args.toList ds p:=hA0
 rw [Tryz.params3] at hA hval hsz
 obtain ⟨v0,vs0,d0,ds0,p0,q0,hargs,rfl,rfl,h0,r0⟩:=trodAll_cons hA
 obtain ⟨v1,vs1,d1,ds1,p1,q1,rfl,rfl,rfl,h1,r1⟩:=trodAll_cons r0
 obtain ⟨rfl,rfl,rfl⟩:=trodAll_nil r1
 obtain rfl : args = #[v0,v1]:=by cases args;simp_all
 obtain ⟨rfl,rfl⟩:=trodVars_none hV
 clear hA0
 simp only [List.append_nil] at hW'
 have hkb : Rows.uptoBulkAll [d0,d1] ≤ 1048576:=of_decide_eq_true hk
 obtain ⟨RA,rs,rc,rfl,q1,q2,q3,q4⟩:=open_rulesL (hval 0 22 v0 rfl rfl) h0 (bulks.all_part hkb (show d0 ∈ [d0,d1] by simp))
 obtain ⟨s,rfl,hsd,hs1⟩:=open_strD (hval 1 9 v1 rfl rfl) h1
 have hsb:=bulks.all_part hkb (show d1 ∈ [d0,d1] by simp)
 rw [hsd,bulks.string_eq] at hsb
 have hs1 : s.length ≤ 1048576:=by omega
 have hlt0 : ∀ x ∈ p0,x.block < W.heap.size:=fun x hx=>by simpa using hW'.lt x (by simp [hx])
 have hlt1 : ∀ x ∈ p1,x.block < W.heap.size:=fun x hx=>by simpa using hW'.lt x (by simp [hx])
 refine (mappingOfView_c rs s RA rs.length rc W q1 q4 rfl q2 q3 hs1 (maxL hsh)).mono fun e W' ⟨he,hg⟩=>?_
 subst he
 have h0' : DataW.Trod enc Tryz.prog W' 0 (fun b=>decide (b < W.heap.size)) true 22 _ _ p0:=Below.trod laidOut (by kernel_rfl) (of_decide_eq_true (by kernel_rfl)) h0 hg hlt0
 have h1' : DataW.Trod enc Tryz.prog W' 0 (fun b=>decide (b < W.heap.size)) true 9 _ _ p1:=Below.trod laidOut (by kernel_rfl) (of_decide_eq_true (by kernel_rfl)) h1 hg hlt1
 refine ⟨_,rfl,_,_,_,[],_,[],hW',?_,trodAll_mk2 h0' h1',rfl,hg.frame _,fun h=>by cases h⟩
 exact trodAll_mk1 (shut_bool Tryz.underlying4 _)

def argsW : Array Value:=#[.slice none 0 0,.string ⟨#[]⟩]
noncomputable def laidWorld (os : Os) : World:=
 { World.holding Tryz.prog os ⟨#[],#[],[]⟩ with heap:=(((World.holding Tryz.prog os ⟨#[],#[],[]⟩).heap.modify 2 (fun
   |.cells _ t frozen=>.cells (accZ.map fun z=>Value.int .u8 z).toArray t frozen
   |o=>o)).modify 1 (fun
   |.cells _ t frozen=>.cells (Go.Pinned.utf8FirstZ.map fun z : Nat=>Value.int .u8 (z : Int)).toArray t frozen
   |o=>o)) }
theorem laid_met (os : Os) : laidMet Tryz.prog Rows.mappingOfViewUptoRow.laid ((laidWorld os).forCall (fun _ _=>0) ⟨#[],argsW,[]⟩).memory:=
 laidMet_of_run' 8 (by kernel_rfl) (by kernel_rfl)
theorem reads (os : Os) {H : Type} (enc : TypeId × Value → H) : ∃ places,DataW.whole enc Tryz.prog ((laidWorld os).forCall (fun _ _=>0) ⟨#[],argsW,[]⟩).memory Tryz.f3.params.toList Rows.mappingOfViewSpec.vars false argsW.toList 8 = some ([.nil,.lit (.string [])],[],places):=
 ⟨[],by kernel_rfl⟩

set_option maxRecDepth 100000 in
theorem lifted (os : Os) (started : os.Started) (H : Type) (enc : TypeId × Value → H) (F : Stop.Interp) :
  ReturnsInHanded {} Tryz.checked os 3 .any ((Rows.OpenSpec.upto Rows.mappingOfViewSpec).preRow enc Tryz.prog Tryz.f3 Rows.mappingOfViewUptoRow.domain false Rows.mappingOfViewUptoRow.laid) (((Rows.OpenSpec.upto Rows.mappingOfViewSpec).at F).post enc Tryz.prog Tryz.f3 false true false false):=by
 obtain ⟨places,hx⟩:=reads os enc
 refine returnsInHanded_of_row (C:=Tryz.checked) (s:=Rows.OpenSpec.upto Rows.mappingOfViewSpec) own started (by kernel_rfl) Tryz.func3
  (witness_row_at (enc:=enc) (C:=Tryz.checked) false (laidWorld os) argsW rfl (by kernel_rfl) (by kernel_rfl) (by kernel_rfl)
   (OpenSpec.preRow_of_cond 8 hx (by kernel_rfl) (fun k hk=>by cases hk;kernel_rfl) (by kernel_rfl) (laid_met os))) ?_
 intro W base args ds gs before hval hW hcnd hcond hsz hL hsh _
 exact contract H enc W base args ds gs before hval hW hsz (hcond _ rfl) hL hsh

theorem own0 : (Rows.mappingOfViewUptoRow.wf (OpenSpec.ofChange (Rows.OpenSpec.upto Rows.mappingOfViewSpec).bare)) = true:=by kernel_rfl
theorem own3 : (Tryz.f3.params.all (Tryz.pinned.checked.prog.readableRec ·)) = true:=by kernel_rfl
theorem own4 : (namedTie Tryz.pinned.checked.prog Rows.mappingOfViewUptoRow.named (Rows.OpenSpec.upto Rows.mappingOfViewSpec).bare.vars) = true:=by kernel_rfl
theorem own5 : ((Rows.mappingOfViewUptoRow.stops == [])) = true:=by kernel_rfl
theorem own7 : ((Rows.mappingOfViewUptoRow.knobs == [])) = true:=by kernel_rfl
theorem own9 : ((Rows.mappingOfViewUptoRow.inPlace == Tryz.pinned.checked.prog.inPlace 3)) = true:=by kernel_rfl
theorem own10 : ((Rows.mappingOfViewUptoRow.unfollowed == Tryz.pinned.checked.prog.unfollowed 3)) = true:=by kernel_rfl
theorem own11 : ((Rows.mappingOfViewUptoRow.recurses == Tryz.pinned.checked.prog.recurses 3)) = true:=by kernel_rfl
theorem own12 : ((Rows.mappingOfViewUptoRow.named == Tryz.pinned.checked.prog.varsNamed 3)) = true:=by kernel_rfl
theorem own13 : ((Rows.mappingOfViewUptoRow.maps == (Tryz.f3.params.toList ++ (Rows.OpenSpec.upto Rows.mappingOfViewSpec).bare.plain.varTypes Tryz.pinned.checked.prog).any (Tryz.pinned.checked.prog.mapsRec ·))) = true:=by kernel_rfl
theorem own14 : ((Rows.mappingOfViewUptoRow.ifaces == (Tryz.f3.params.toList ++ (Rows.OpenSpec.upto Rows.mappingOfViewSpec).bare.plain.varTypes Tryz.pinned.checked.prog).any (Tryz.pinned.checked.prog.ifacesRec ·))) = true:=by kernel_rfl
theorem own15 : ((Rows.mappingOfViewUptoRow.mapsOut == Tryz.pinned.checked.prog.mapsAmong Tryz.f3.resultTypes.toList)) = true:=by kernel_rfl
theorem own16 : ((Rows.mappingOfViewUptoRow.loops == (Tryz.f3.params.toList ++ (Rows.OpenSpec.upto Rows.mappingOfViewSpec).bare.plain.varTypes Tryz.pinned.checked.prog).any (Tryz.pinned.checked.prog.loopsFrom ·))) = true:=by kernel_rfl
theorem own17 : ((Rows.mappingOfViewUptoRow.wideKeys == (Tryz.f3.params.toList ++ (Rows.OpenSpec.upto Rows.mappingOfViewSpec).bare.plain.varTypes Tryz.pinned.checked.prog ++ Tryz.f3.resultTypes.toList).any (Tryz.pinned.checked.prog.wideKeysFrom ·))) = true:=by kernel_rfl
theorem own18 : ((Rows.OpenSpec.upto Rows.mappingOfViewSpec).bare.vars.all (Tryz.pinned.checked.prog.varReadable ·)) = true:=by kernel_rfl
theorem own19 : (Tryz.f3.resultTypes.all (fun t=>Tryz.pinned.checked.prog.readableRec t && decide (t < Tryz.pinned.checked.prog.types.size))) = true:=by kernel_rfl
theorem own20 : ((Rows.mappingOfViewUptoRow.ifacesOut == Tryz.f3.resultTypes.toList.any (Tryz.pinned.checked.prog.ifacesRec ·))) = true:=by kernel_rfl
theorem own21 : ((Rows.mappingOfViewUptoRow.loopsOut == Tryz.f3.resultTypes.toList.any (Tryz.pinned.checked.prog.loopsFrom ·))) = true:=by kernel_rfl
theorem own23 : (Rows.mappingOfViewUptoRow.shortTexts.isNone) = true:=by kernel_rfl
theorem own28 : ((Rows.mappingOfViewUptoRow.kinds == (if Rows.mappingOfViewUptoRow.domain.isEmpty then [] else Tryz.f3.params.toList.map fun t=>match Tryz.pinned.checked.prog.underlying t with | some (.int k)=>some k | _=>none))) = true:=by kernel_rfl
theorem own29 : ((Rows.mappingOfViewUptoRow.pinned == Rows.mappingOfViewUptoRow.pinnedBy)) = true:=by kernel_rfl
theorem own30 : ((Rows.mappingOfViewUptoRow.veiled == (Tryz.f3.params.toList ++ (Rows.OpenSpec.upto Rows.mappingOfViewSpec).bare.plain.varTypes Tryz.pinned.checked.prog ++ Tryz.f3.resultTypes.toList).any (Tryz.pinned.checked.prog.veiledRec ·))) = true:=by kernel_rfl
theorem own31 : (Rows.mappingOfViewUptoRow.veiledFits Tryz.pinned.checked.prog Tryz.f3.params.toList (Tryz.f3.params.toList ++ (Rows.OpenSpec.upto Rows.mappingOfViewSpec).bare.plain.varTypes Tryz.pinned.checked.prog ++ Tryz.f3.resultTypes.toList)) = true:=by kernel_rfl
theorem closed : joinedFacts Tryz.pinned.checked.prog 3 Tryz.f3 (Rows.OpenSpec.upto Rows.mappingOfViewSpec).bare Rows.mappingOfViewUptoRow = true:=(fact_and (fact_and (fact_and (fact_and (fact_and (fact_and (fact_and (fact_and (fact_and (fact_and (fact_and (fact_and (fact_and (fact_and (fact_and (fact_and (fact_and (fact_and (fact_and (fact_and (fact_and (fact_and (fact_and (fact_and (fact_and (fact_and (fact_and (fact_and (fact_and (fact_and (fact_and own0 fact1) fact2) own3) own4) own5) fact6) own7) fact8) own9) own10) own11) own12) own13) own14) own15) own16) own17) own18) own19) own20) own21) fact22) own23) fact24) fact25) fact26) fact27) (by kernel_rfl)) own29) own30) own31)
theorem named : Tryz.pinned.checked.prog.funcNamed Rows.mappingOfViewUptoRow.func = some 3:=by kernel_rfl
theorem named2 : Tryz.prog.funcNamed "stockyard/stockyardlaw07.MappingOfView" = some 3 := by kernel_rfl
theorem inst : (Tryz.f3).isInstance Tryz.pinned.checked.prog Rows.mappingOfViewUptoRow.origin Rows.mappingOfViewUptoRow.targs:=of_decide_eq_true (by kernel_rfl)
theorem wrap : (Tryz.f3).isWrapper Tryz.pinned.checked.prog Rows.mappingOfViewUptoRow.wrapper Rows.mappingOfViewUptoRow.mainSum:=by unfold Func.isWrapper;first | (rw [if_pos (by decide +kernel)];kernel_rfl) | (rw [if_neg (by decide +kernel)];exact ⟨rfl,rfl⟩)
theorem goes : false = Rows.mappingOfViewUptoRow.goesBy Tryz.pinned.checked.prog:=by kernel_rfl
theorem said : Rows.MappingOfViewUptoSaid:=
 OpenClaim.holds_of_cond 3 Tryz.f3 rfl rfl rfl rfl rfl rfl rfl ⟨rfl,rfl,rfl,rfl,rfl⟩ rfl rfl rfl rfl rfl named Tryz.func3 closed
  inst wrap
  (fun os started H enc _ F=>by rw [OpenClaim.pre_eq_preRow];exact lifted os started H enc F)
theorem plain (f : FuncId) (fn : Func) (hf : Tryz.pinned.checked.prog.funcNamed "stockyard/stockyardlaw07.MappingOfView" = some f) (hfn : Tryz.pinned.checked.prog.funcs[f]? = some fn) :
  false = Tryz.pinned.checked.prog.looks [] ∧ ∀ (j : Nat) t,fn.params[j]? = some t → Tryz.pinned.checked.prog.wantsStandIn t = false:=by
 obtain rfl : f = 3 := Option.some.inj ((show Tryz.prog.funcNamed "stockyard/stockyardlaw07.MappingOfView" = some 3 from named2).symm.trans hf) |>.symm
 obtain rfl : fn = Tryz.f3:=(Option.some.inj (Tryz.func3.symm.trans hfn)).symm
 refine ⟨factLooks,fun j t ht=>?_⟩
 rw [Tryz.params3] at ht
 have hm:=Array.mem_of_getElem? ht
 simp only [List.mem_toArray,List.mem_cons,List.not_mem_nil,or_false] at hm
 rcases hm with rfl | rfl
 ·exact (show Tryz.prog.wantsStandIn 22 = false by kernel_rfl)
 ·exact (show Tryz.prog.wantsStandIn 9 = false by kernel_rfl)
theorem card : Rows.MappingOfViewUptoCardSaid:=
 Claim7.holds_tied_plain_at .later [] _ _ _ _ said (fun _ h=>by cases h) (by kernel_rfl) (fun _ h=>by cases h) mappingOfViewUpto_row_tie rfl ⟨rfl,rfl⟩ (by kernel_rfl) rfl plain goes
end Go.Proofs.YthopphabeddnfaaGreatDoor.mappingOfViewUpto
