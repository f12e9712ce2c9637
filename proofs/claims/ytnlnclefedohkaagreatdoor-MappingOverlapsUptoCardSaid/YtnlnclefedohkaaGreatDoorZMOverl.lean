/- The law on the overlap and the agreement of two mappings beside their specification answers true for every input of at most 1048576 values and letters and leaves its arguments as they were. The two listed tables hold what the library lays. -/
import Derived.Test.YtnlnclefedohkaaGreatDoorProg
import Derived.ProofKit
import Derived.OpenShut
import Derived.SizedLaws
import Derived.Deep.Strs
import Derived.Deep.Slices
import Derived.ChangeSame
import Derived.Test.YtnlnclefedohkaaGreatDoorRows
import Derived.Test.YtnlnclefedohkaaGreatDoorCards
import Derived.Test.YtnlnclefedohkaaGreatDoorTie
import Derived.WalkKit
import Derived.Deep.DeepHandedRow
import Derived.Carry
import Derived.Lib.LaidTab
import GoSem.PinnedTables
import Derived.Test.YtnlnclefedohkaaGreatDoorZWalkD
import Derived.Test.YtnlnclefedohkaaGreatDoorZEntM
import Derived.Test.YtnlnclefedohkaaGreatDoorZGChkU
import Derived.Test.YtnlnclefedohkaaGreatDoorZLawM6C
set_option linter.unusedVariables false
set_option linter.unusedSimpArgs false
namespace Go.Proofs.YtnlnclefedohkaaGreatDoor
open Go Go.ChangeShapes Go.WideShapes Go.RowKit Go.Deep Sy

theorem cell_lt {w : World} {a : Addr} {v : Value} (h : w.cell? a = some v) : a.block < w.heap.size ∧ a.spot = none:=by
 unfold World.cell? at h
 split at h
 ·rename_i h1
  constructor
  ·rcases Nat.lt_or_ge a.block w.heap.size with h2 | h2
   ·exact h2
   ·rw [Array.getElem?_eq_none h2] at h1;cases h1
  ·split at h
   ·cases h
   ·rename_i h2;simpa using h2
 ·cases h

section
variable {H : Type} {enc : TypeId × Value → H} {w : World}

theorem u_strs : Tryz.prog.underlying 38 = some (.slice 9):=Tryz.underlying38
theorem u_str : Tryz.prog.underlying 9 = some .string:=Tryz.underlying9
theorem u_bool : Tryz.prog.underlying 4 = some .bool:=Tryz.underlying4
theorem c_str : Tryz.prog.cellsOf 9 = 1:=by kernel_rfl
theorem c_pat : Tryz.prog.cellsOf 40 = 2:=by kernel_rfl
end
end Go.Proofs.YtnlnclefedohkaaGreatDoor
set_option linter.unusedVariables false
set_option linter.unusedSimpArgs false
namespace Go.Proofs.YtnlnclefedohkaaGreatDoor.bulks

theorem one_le {H : Type} (d : DataW H) : 1 ≤ Rows.uptoBulk d:=by
 cases d with
 |lit l=>cases l <;> simp [Rows.uptoBulk]
 |nil=>simp [Rows.uptoBulk]
 |ptr d=>simp [Rows.uptoBulk]
 |slice elems spare=>simp [Rows.uptoBulk]
 |agg parts=>simp [Rows.uptoBulk]
 |iface t d=>simp [Rows.uptoBulk]
 |map entries=>simp [Rows.uptoBulk]
 |held h=>simp [Rows.uptoBulk]
theorem part_le {H : Type} {d : DataW H} {l : List (DataW H)} (h : d ∈ l) : Rows.uptoBulk d ≤ Rows.uptoBulkAll l:=by
 induction l with
 |nil=>cases h
 |cons x r ih=>
  simp only [Rows.uptoBulkAll]
  cases List.mem_cons.1 h with
  |inl e=>subst e;omega
  |inr e=>have:=ih e;omega
theorem length_le {H : Type} (l : List (DataW H)) : l.length ≤ Rows.uptoBulkAll l:=by
 induction l with
 |nil=>simp [Rows.uptoBulkAll]
 |cons x r ih=>have:=one_le x;simp only [Rows.uptoBulkAll,List.length_cons];omega
theorem slice_le {H : Type} (elems spare : List (DataW H)) : elems.length + spare.length + 1 ≤ Rows.uptoBulk (.slice elems spare):=by
 have h1:=length_le elems
 have h2:=length_le spare
 simp only [Rows.uptoBulk]
 omega
theorem slice_elems {H : Type} (elems spare : List (DataW H)) : Rows.uptoBulkAll elems + 1 ≤ Rows.uptoBulk (.slice elems spare):=by
 simp only [Rows.uptoBulk]
 omega
theorem slice_part {H : Type} {d : DataW H} {elems spare : List (DataW H)} (h : d ∈ elems) : Rows.uptoBulk d ≤ Rows.uptoBulk (.slice elems spare):=by
 have h1:=part_le h
 have h2:=slice_elems elems spare
 omega
theorem agg_part {H : Type} {d : DataW H} {parts : List (DataW H)} (h : d ∈ parts) : Rows.uptoBulk d ≤ Rows.uptoBulk (.agg parts):=by
 have h1:=part_le h
 simp only [Rows.uptoBulk]
 omega
theorem all_part {H : Type} {d : DataW H} {l : List (DataW H)} {B : Nat} (hb : Rows.uptoBulkAll l ≤ B) (h : d ∈ l) : Rows.uptoBulk d ≤ B:=Nat.le_trans (part_le h) hb
theorem string_eq {H : Type} (bytes : List UInt8) : Rows.uptoBulk (DataW.lit (H:=H) (.string bytes)) = bytes.length + 1:=by
 simp [Rows.uptoBulk]
end Go.Proofs.YtnlnclefedohkaaGreatDoor.bulks
set_option linter.unusedVariables false
set_option linter.unusedSimpArgs false
namespace Go.Proofs.YtnlnclefedohkaaGreatDoor
open Go Go.ChangeShapes Go.WideShapes Go.RowKit Go.Deep Sy
section
variable {H : Type} {enc : TypeId × Value → H} {w : World}
set_option maxRecDepth 20000 in
theorem open_strU {fuel : Nat} {cs : List Value} {x : DataW H × List MemPlace} (h : DataW.trod enc Tryz.prog w 0 (fun _=>true) true fuel 38 cs = some x) (hb : Rows.uptoBulk x.1 ≤ 1048576) :
  ∃ A ls c,cs = [.slice A (List.length ls) c] ∧ ls.length ≤ c ∧ c ≤ 140737488355328 ∧ StrsU w A ls:=by
 rcases open_strs u_strs u_str c_str h with ⟨rfl,rfl⟩ | ⟨a,len,cap,m,Sx,rfl,_,hl,hm,hmm,rfl,hx⟩
 ·exact ⟨none,[],0,rfl,Nat.le_refl _,by decide,by simp,(fun l hl=>by cases hl),(fun h0=>absurd h0 (Nat.lt_irrefl _))⟩
 ·have hmc : m = cap:=hmm
  subst hmc
  have hs:=bulks.slice_le ((List.range len).map fun i=>DataW.lit (H:=H) (.string (Sx i).data.toList)) ((List.range (m - len)).map fun j=>.lit (.string (Sx (len + j)).data.toList))
  simp only [List.length_map,List.length_range] at hs
  have heach : ∀ i,i < len → (Sx i).data.toList.length ≤ 1048576:=fun i hi=>by
   have h1:=bulks.slice_part (spare:=(List.range (m - len)).map fun j=>DataW.lit (H:=H) (.string (Sx (len + j)).data.toList)) (List.mem_map.2 ⟨i,List.mem_range.2 hi,rfl⟩ : DataW.lit (H:=H) (.string (Sx i).data.toList) ∈ (List.range len).map fun i=>DataW.lit (H:=H) (.string (Sx i).data.toList))
   rw [bulks.string_eq] at h1
   have h2:=Nat.le_trans h1 hb
   omega
  have hcl : m ≤ 1048576:=by
   have h2:=Nat.le_trans hs hb
   omega
  refine ⟨some a,(List.range len).map fun i=>(Sx i).data.toList,m,by simp,by simpa using hl,by omega,by simp;omega,fun l hl2=>?_,fun h0=>?_⟩
  ·obtain ⟨i,hi,rfl⟩:=List.mem_map.1 hl2
   exact heach i (List.mem_range.1 hi)
  ·have h0' : 0 < len:=by simpa using h0
   obtain ⟨q1,q2⟩:=cell_lt (hx 0 (by omega)).1
   obtain ⟨ab,ao,asp⟩:=a
   have q3 : asp = none:=q2
   subst q3
   refine ⟨ab,ao,rfl,q1,fun k l hk=>?_⟩
   rw [List.getElem?_map] at hk
   obtain ⟨i,hi,rfl⟩:=Option.map_eq_some_iff.1 hk
   obtain ⟨hlt,he⟩:=List.getElem?_eq_some_iff.1 hi
   rw [List.getElem_range] at he
   subst he
   rw [List.length_range] at hlt
   have:=(hx k (by omega)).1
   rw [add_plain] at this
   rw [this,bs_eta]

set_option maxRecDepth 20000 in
theorem open_patU {fuel : Nat} {cs : List Value} {x : DataW H × List MemPlace} (h : DataW.trod enc Tryz.prog w 0 (fun _=>true) true fuel 40 cs = some x) (hb : Rows.uptoBulk x.1 ≤ 1048576) :
  ∃ (p : Pat) (A : Option Addr) (c : Nat),cs = [.slice A p.parts.length c,.bool p.rest] ∧ p.parts.length ≤ c ∧ c ≤ 140737488355328 ∧ StrsU w A p.parts:=by
 obtain ⟨y0,y1,n,rfl,hlen,h0,h1⟩:=trod_struct2 Tryz.underlying40 h
 rw [c_pat] at hlen
 match cs,hlen with
 |[c0,c1],_=>
  have e0 : DataW.trod enc Tryz.prog w 0 (fun _=>true) true n 38 [c0] = some y0:=h0
  have e1 : DataW.trod enc Tryz.prog w 0 (fun _=>true) true n 4 [c1] = some y1:=h1
  obtain ⟨A,ls,c,g1,g2,g3,g4⟩:=open_strU e0 (Nat.le_trans (bulks.agg_part (by simp)) hb)
  obtain ⟨r,g5,_⟩:=DataW.trod_bool u_bool e1
  simp only [List.cons.injEq,and_true] at g1 g5
  subst g1
  subst g5
  exact ⟨⟨ls,r⟩,A,c,rfl,g2,g3,g4⟩

end
end Go.Proofs.YtnlnclefedohkaaGreatDoor
set_option linter.unusedVariables false
set_option linter.unusedSimpArgs false
namespace Go.Proofs.YtnlnclefedohkaaGreatDoor
open Go Go.ChangeShapes Go.WideShapes Go.RowKit Go.Deep Sy
section
variable {H : Type} {enc : TypeId × Value → H} {w : World}
theorem u_patsE : Tryz.prog.underlying 41 = some (.slice 40):=Tryz.underlying41
theorem c_patsE : Tryz.prog.cellsOf 41 = 1:=by kernel_rfl
theorem u_ents : Tryz.prog.underlying 22 = some (.slice 43):=Tryz.underlying22
theorem c_ent : Tryz.prog.cellsOf 43 = 5:=by kernel_rfl

set_option maxRecDepth 20000 in
theorem open_patsU {fuel : Nat} {cs : List Value} {x : DataW H × List MemPlace} (h : DataW.trod enc Tryz.prog w 0 (fun _=>true) true fuel 41 cs = some x) (hb : Rows.uptoBulk x.1 ≤ 1048576) :
  ∃ A ps c,cs = [.slice A (List.length ps) c] ∧ ps.length ≤ c ∧ c ≤ 1048576 ∧ PatsU w A ps:=by
 rcases open_slice u_patsE h with ⟨rfl,rfl⟩ | ⟨a,len,cap,m,n,D,Pq,rfl,_,hl,hm,hmm,rfl,hx⟩
 ·exact ⟨none,[],0,rfl,Nat.le_refl _,by decide,by simp,(fun h0=>absurd h0 (Nat.lt_irrefl _))⟩
 ·have hmc : m = cap:=hmm
  subst hmc
  have hs:=bulks.slice_le ((List.range len).map D) ((List.range (m - len)).map fun j=>D (len + j))
  simp only [List.length_map,List.length_range] at hs
  have hcl : m ≤ 1048576:=by
   have h2:=Nat.le_trans hs hb
   omega
  have each : ∀ i,i < len → ∃ y : NewP,(∀ ab ao,a = ⟨ab,ao,none⟩ → w.cell? ⟨ab,ao + i * 2,none⟩ = some (.slice y.A y.p.parts.length y.c) ∧ w.cell? ⟨ab,ao + i * 2 + 1,none⟩ = some (.bool y.p.rest)) ∧ (y.p.parts.length ≤ y.c ∧ y.c ≤ 9223372036854775807 ∧ StrsU w y.A y.p.parts) ∧ (w.cell? (a.add (i * 2))).isSome = true:=fun i hi=>by
   obtain ⟨cs',hc,ht⟩:=hx i (by omega)
   rw [c_pat] at hc
   obtain ⟨p,A,c,rfl,g1,g2,g3⟩:=open_patU ht (Nat.le_trans (bulks.slice_part (List.mem_map.2 ⟨i,List.mem_range.2 hi,rfl⟩)) hb)
   obtain ⟨_,_,hat⟩:=World.cells?_some hc
   have h0:=hat 0 (by decide)
   have h1:=hat 1 (by decide)
   refine ⟨⟨A,c,p⟩,fun ab ao e=>?_,⟨g1,by show c ≤ _;omega,g3⟩,?_⟩
   ·subst e
    rw [add_plain] at h0 h1
    rw [add_plain] at h0 h1
    exact ⟨h0,h1⟩
   ·have h5 : (a.add (i * 2)).add 0 = a.add (i * 2):=by simp [Addr.add]
    rw [h5] at h0
    rw [h0]
    rfl
  obtain ⟨R,hR⟩:=choose_lt each
  refine ⟨some a,(List.range len).map fun i=>(R i).p,m,by simp,by simpa using hl,hcl,by simp;omega,fun h0=>?_⟩
  have h0' : 0 < len:=by simpa using h0
  obtain ⟨q0,hq0⟩:=Option.isSome_iff_exists.1 (hR 0 h0').2.2
  obtain ⟨q1,q2⟩:=cell_lt hq0
  obtain ⟨ab,ao,asp⟩:=a
  have q3 : asp = none:=q2
  subst q3
  refine ⟨ab,ao,rfl,q1,fun k p hk=>?_⟩
  rw [List.getElem?_map] at hk
  obtain ⟨i,hi,rfl⟩:=Option.map_eq_some_iff.1 hk
  obtain ⟨hlt,he⟩:=List.getElem?_eq_some_iff.1 hi
  rw [List.getElem_range] at he
  subst he
  rw [List.length_range] at hlt
  obtain ⟨g1,g2,_⟩:=hR k hlt
  exact ⟨(R k).A,(R k).c,(g1 ab ao rfl).1,(g1 ab ao rfl).2,g2.1,g2.2.1,g2.2.2⟩

set_option maxRecDepth 20000 in
theorem open_entU {fuel : Nat} {cs : List Value} {x : DataW H × List MemPlace} (h : DataW.trod enc Tryz.prog w 0 (fun _=>true) true fuel 43 cs = some x) (hb : Rows.uptoBulk x.1 ≤ 1048576) :
  ∃ z : NewE,cs = encE z ∧ EntA w z:=by
 obtain ⟨y0,y1,y2,n,rfl,hlen,h0,h1,h2⟩:=trod_struct3 Tryz.underlying43 h
 rw [c_ent] at hlen
 match cs,hlen with
 |[c0,c1,c2,c3,c4],_=>
  have e0 : DataW.trod enc Tryz.prog w 0 (fun _=>true) true n 40 [c0,c1] = some y0:=by simpa [c_pat] using h0
  have e1 : DataW.trod enc Tryz.prog w 0 (fun _=>true) true n 40 [c2,c3] = some y1:=by simpa [c_pat] using h1
  have e2 : DataW.trod enc Tryz.prog w 0 (fun _=>true) true n 41 [c4] = some y2:=by simpa [c_pat,c_patsE] using h2
  obtain ⟨p1,A1,k1,g1,g2,g3,g4⟩:=open_patU e0 (Nat.le_trans (bulks.agg_part (by simp)) hb)
  obtain ⟨p2,A2,k2,j1,j2,j3,j4⟩:=open_patU e1 (Nat.le_trans (bulks.agg_part (by simp)) hb)
  obtain ⟨A3,ps,k3,l1,l2,l3,l4⟩:=open_patsU e2 (Nat.le_trans (bulks.agg_part (by simp)) hb)
  simp only [List.cons.injEq,and_true] at g1 j1 l1
  obtain ⟨rfl,rfl⟩:=g1
  obtain ⟨rfl,rfl⟩:=j1
  subst l1
  exact ⟨⟨A1,k1,A2,k2,A3,k3,⟨p1,p2,ps⟩⟩,rfl,g4,j4,l4,g2,j2,l2,Nat.le_trans g3 (by decide),Nat.le_trans j3 (by decide),Nat.le_trans l3 (by decide)⟩

set_option maxRecDepth 20000 in
theorem open_entsU {fuel : Nat} {cs : List Value} {x : DataW H × List MemPlace} (h : DataW.trod enc Tryz.prog w 0 (fun _=>true) true fuel 22 cs = some x) (hb : Rows.uptoBulk x.1 ≤ 1048576) :
  ∃ A es c,cs = [.slice A (List.length es) c] ∧ es.length ≤ c ∧ c ≤ 1048576 ∧ EntsA w A es:=by
 rcases open_slice u_ents h with ⟨rfl,rfl⟩ | ⟨a,len,cap,m,n,D,Pq,rfl,_,hl,hm,hmm,rfl,hx⟩
 ·exact ⟨none,[],0,rfl,Nat.le_refl _,by decide,by simp,[],rfl,(fun h=>absurd rfl h),(fun z hz=>by cases hz)⟩
 ·have hmc : m = cap:=hmm
  subst hmc
  have hs:=bulks.slice_le ((List.range len).map D) ((List.range (m - len)).map fun j=>D (len + j))
  simp only [List.length_map,List.length_range] at hs
  have hcl : m ≤ 1048576:=by
   have h2:=Nat.le_trans hs hb
   omega
  have each : ∀ i,i < len → ∃ z : NewE,(∀ ab ao,a = ⟨ab,ao,none⟩ → ∀ (j : Nat) u,(encE z)[j]? = some u → w.cell? ⟨ab,ao + i * 5 + j,none⟩ = some u) ∧ EntA w z ∧ (w.cell? (a.add (i * 5))).isSome = true:=fun i hi=>by
   obtain ⟨cs',hc,ht⟩:=hx i (by omega)
   rw [c_ent] at hc
   obtain ⟨z,rfl,g⟩:=open_entU ht (Nat.le_trans (bulks.slice_part (List.mem_map.2 ⟨i,List.mem_range.2 hi,rfl⟩)) hb)
   obtain ⟨_,_,hat⟩:=World.cells?_some hc
   refine ⟨z,fun ab ao e j u hu=>?_,g,?_⟩
   ·subst e
    have hj : j < (encE z).length:=(List.getElem?_eq_some_iff.1 hu).1
    have h0:=hat j hj
    rw [add_plain] at h0
    rw [add_plain] at h0
    exact h0.trans hu
   ·have h0:=hat 0 (by simp [encE])
    have h5 : (a.add (i * 5)).add 0 = a.add (i * 5):=by simp [Addr.add]
    rw [h5] at h0
    rw [h0]
    rfl
  obtain ⟨R,hR⟩:=choose_lt each
  refine ⟨some a,(List.range len).map fun i=>(R i).e,m,by simp,by simpa using hl,hcl,by simp;omega,(List.range len).map R,by simp [List.map_map],fun h0=>?_,fun z hz=>?_⟩
  ·have h0' : 0 < len:=by
    rcases Nat.eq_zero_or_pos len with e | e
    ·subst e
     exact absurd rfl h0
    ·exact e
   obtain ⟨q0,hq0⟩:=Option.isSome_iff_exists.1 (hR 0 h0').2.2
   obtain ⟨q1,q2⟩:=cell_lt hq0
   obtain ⟨ab,ao,asp⟩:=a
   have q3 : asp = none:=q2
   subst q3
   refine ⟨ab,ao,rfl,q1,fun k z hk j u hu=>?_⟩
   rw [List.getElem?_map] at hk
   obtain ⟨i,hi,rfl⟩:=Option.map_eq_some_iff.1 hk
   obtain ⟨hlt,he⟩:=List.getElem?_eq_some_iff.1 hi
   rw [List.getElem_range] at he
   subst he
   rw [List.length_range] at hlt
   exact (hR k hlt).1 ab ao rfl j u hu
  ·obtain ⟨i,hi,rfl⟩:=List.mem_map.1 hz
   exact (hR i (List.mem_range.1 hi)).2.1
set_option maxRecDepth 20000 in
theorem open_entsL {v : Value} {b0 : Nat} {d : DataW H} {p : List MemPlace} (hv : Value.okWide Tryz.prog w .any b0 22 v) (h : DataW.Trod enc Tryz.prog w 0 (fun _=>true) true 22 v d p) (hb : Rows.uptoBulk d ≤ 1048576) :
  ∃ (A : Option Addr) (es : List Ent) (c : Nat),v = .slice A es.length c ∧ EntsA w A es ∧ es.length ≤ c ∧ c ≤ 1048576:=by
 obtain ⟨a0,len,cap,rfl⟩:=okWide_slice Tryz.underlying22 hv
 obtain ⟨fuel,hf⟩:=h
 obtain ⟨A,es,c,h1,h2,h3,h4⟩:=open_entsU hf hb
 simp only [Value.cells,List.cons.injEq,and_true] at h1
 exact ⟨A,es,c,h1,h4,h2,h3⟩
end
end Go.Proofs.YtnlnclefedohkaaGreatDoor
set_option linter.unusedVariables false
set_option linter.unusedSimpArgs false
namespace Go.Proofs.YtnlnclefedohkaaGreatDoor
open Go.ChangeShapes Go.WideShapes Go.ChangeAt Go.RowKit

theorem fact_and {a b : Bool} (ha : a = true) (hb : b = true) : (a && b) = true:=by rw [ha,hb];rfl
theorem fact1 : (laidOutB Tryz.pinned.checked.prog) = true:=by kernel_rfl
theorem fact2 : (mapsRowed Tryz.pinned.checked.prog) = true:=by kernel_rfl
theorem fact6 : ((Tryz.pinned.checked.prog.stops == [])) = true:=by kernel_rfl
theorem fact8 : ((Tryz.pinned.checked.prog.stopKnobs == [])) = true:=by kernel_rfl
theorem fact22 : ((Rows.mappingOverlapMeansUptoRow.plainKeys == Tryz.pinned.checked.prog.plainKeys)) = true:=by kernel_rfl
theorem fact24 : (Tryz.pinned.checked.prog.stopsHeard) = true:=by kernel_rfl
theorem fact25 : (Tryz.pinned.checked.prog.mayEnter) = true:=by kernel_rfl
theorem fact26 : ((Rows.mappingOverlapMeansUptoRow.lifted == Tryz.pinned.checked.prog.liftsFinal)) = true:=by kernel_rfl
theorem fact27 : ((Tryz.pinned.checked.prog.make == some Rows.mappingOverlapMeansUptoRow.make)) = true:=by kernel_rfl
theorem factLooks : false = Tryz.pinned.checked.prog.looks []:=by kernel_rfl
end Go.Proofs.YtnlnclefedohkaaGreatDoor
set_option linter.unusedVariables false
set_option linter.unusedSimpArgs false
namespace Go.Proofs.YtnlnclefedohkaaGreatDoor.mappingOverlapsUpto
open Go.ChangeShapes Go.WideShapes Go.ChangeAt Go.RowKit Sy

theorem own : ownKnob Tryz.prog.godebug = none:=by kernel_rfl
theorem laidOut : laidOutB Tryz.prog = true:=by kernel_rfl
def accZ : List Int:=[128,191,160,191,128,159,144,191,128,143,0,0,0,0,0,0,0,0,0,0,0,0,0,0,0,0,0,0,0,0,0,0]

theorem maxL {W : World} (h : W.ShapedOpen Tryz.prog) : MaxL W:=by
 obtain ⟨m,hm⟩:=Tryz.laysM146.s1_3 W h
 exact ⟨(cell_lt hm).1,m,hm⟩

set_option maxRecDepth 100000 in
theorem contract (H : Type) (enc : TypeId × Value → H) (W : World) (base : Nat) (args : Array Value) (ds gs : List (DataW H)) (before : List MemPlace)
  (hval : ∀ (j : Nat) t v,Tryz.f4.params[j]? = some t → args[j]? = some v → Value.okWide Tryz.prog W .any base t v)
  (hW : DataW.Whole enc Tryz.prog Tryz.f4.params.toList Rows.mappingOverlapsSpec.vars false W args.toList ds gs before)
  (hsz : (DataW.weightsEach Tryz.prog (Tryz.f4.params.toList ++ ((OpenSpec.ofChange Rows.mappingOverlapsSpec).bare.plain.varTypes Tryz.prog)) (ds ++ gs)).all (· ≤ reachBytes) = true) (hk : Rows.uptoSmall H (ds ++ gs) = true) (hL : laidMetH Tryz.prog Rows.mappingOverlapsUptoRow.laid W) (hsh : W.ShapedOpen Tryz.prog) :
  Calls Tryz.prog 4 args W fun e W'=>∃ v,e = .returned v ∧ Rows.mappingOverlapsSpec.post enc Tryz.prog Tryz.f4 false true false false W args v W':=by
 have hW':=hW
 obtain ⟨p,q,hA0,hV,rfl,hfz,hnd⟩:=hW
 have hA : DataW.TrodAll enc Tryz.prog W 0 (fun _=>true) true Tryz.f4.params.toList args.toList ds p:=hA0
 rw [Tryz.params4] at hA hval hsz
 obtain ⟨v0,vs0,d0,ds0,p0,q0,hargs,rfl,rfl,h0,r0⟩:=trodAll_cons hA
 obtain ⟨v1,vs1,d1,ds1,p1,q1,rfl,rfl,rfl,h1,r1⟩:=trodAll_cons r0
 obtain ⟨rfl,rfl,rfl⟩:=trodAll_nil r1
 obtain rfl : args = #[v0,v1]:=by cases args;simp_all
 obtain ⟨rfl,rfl⟩:=trodVars_none hV
 clear hA0
 simp only [List.append_nil] at hW'
 have hkb : Rows.uptoBulkAll [d0,d1] ≤ 1048576:=of_decide_eq_true hk
 obtain ⟨EA,es,ec,rfl,e1,e2,e3⟩:=open_entsL (hval 0 22 v0 rfl rfl) h0 (bulks.all_part hkb (show d0 ∈ [d0,d1] by simp))
 obtain ⟨EA2,es2,ec2,rfl,e12,e22,e32⟩:=open_entsL (hval 1 22 v1 rfl rfl) h1 (bulks.all_part hkb (show d1 ∈ [d0,d1] by simp))
 have hlt0 : ∀ x ∈ p0,x.block < W.heap.size:=fun x hx=>by simpa using hW'.lt x (by simp [hx])
 have hlt1 : ∀ x ∈ p1,x.block < W.heap.size:=fun x hx=>by simpa using hW'.lt x (by simp [hx])
 refine (mappingOverlaps_c es es2 es.length ec es2.length ec2 EA EA2 W e1 e2 (by omega) rfl e12 e22 (by omega) rfl (maxL hsh)).mono fun e W' ⟨he,hg⟩=>?_
 subst he
 have h0' : DataW.Trod enc Tryz.prog W' 0 (fun b=>decide (b < W.heap.size)) true 22 _ _ p0:=Below.trod laidOut (by kernel_rfl) (of_decide_eq_true (by kernel_rfl)) h0 hg hlt0
 have h1' : DataW.Trod enc Tryz.prog W' 0 (fun b=>decide (b < W.heap.size)) true 22 _ _ p1:=Below.trod laidOut (by kernel_rfl) (of_decide_eq_true (by kernel_rfl)) h1 hg hlt1
 refine ⟨_,rfl,_,_,_,[],_,[],hW',?_,trodAll_mk2 h0' h1',rfl,hg.frame _,fun h=>by cases h⟩
 exact trodAll_mk1 (shut_bool Tryz.underlying4 _)

def argsW : Array Value:=#[.slice none 0 0,.slice none 0 0]
noncomputable def laidWorld (os : Os) : World:=
 { World.holding Tryz.prog os ⟨#[],#[],[]⟩ with heap:=(((World.holding Tryz.prog os ⟨#[],#[],[]⟩).heap.modify 2 (fun
   |.cells _ t frozen=>.cells (accZ.map fun z=>Value.int .u8 z).toArray t frozen
   |o=>o)).modify 1 (fun
   |.cells _ t frozen=>.cells (Go.Pinned.utf8FirstZ.map fun z : Nat=>Value.int .u8 (z : Int)).toArray t frozen
   |o=>o)) }
theorem laid_met (os : Os) : laidMet Tryz.prog Rows.mappingOverlapsUptoRow.laid ((laidWorld os).forCall (fun _ _=>0) ⟨#[],argsW,[]⟩).memory:=
 laidMet_of_run' 8 (by kernel_rfl) (by kernel_rfl)
theorem reads (os : Os) {H : Type} (enc : TypeId × Value → H) : ∃ places,DataW.whole enc Tryz.prog ((laidWorld os).forCall (fun _ _=>0) ⟨#[],argsW,[]⟩).memory Tryz.f4.params.toList Rows.mappingOverlapsSpec.vars false argsW.toList 8 = some ([.nil,.nil],[],places):=
 ⟨[],by kernel_rfl⟩

set_option maxRecDepth 100000 in
theorem lifted (os : Os) (started : os.Started) (H : Type) (enc : TypeId × Value → H) (F : Stop.Interp) :
  ReturnsInHanded {} Tryz.checked os 4 .any ((Rows.OpenSpec.upto Rows.mappingOverlapsSpec).preRow enc Tryz.prog Tryz.f4 Rows.mappingOverlapsUptoRow.domain false Rows.mappingOverlapsUptoRow.laid) (((Rows.OpenSpec.upto Rows.mappingOverlapsSpec).at F).post enc Tryz.prog Tryz.f4 false true false false):=by
 obtain ⟨places,hx⟩:=reads os enc
 refine returnsInHanded_of_row (C:=Tryz.checked) (s:=Rows.OpenSpec.upto Rows.mappingOverlapsSpec) own started (by kernel_rfl) Tryz.func4
  (witness_row_at (enc:=enc) (C:=Tryz.checked) false (laidWorld os) argsW rfl (by kernel_rfl) (by kernel_rfl) (by kernel_rfl)
   (OpenSpec.preRow_of_cond 8 hx (by kernel_rfl) (fun k hk=>by cases hk;kernel_rfl) (by kernel_rfl) (laid_met os))) ?_
 intro W base args ds gs before hval hW hcnd hcond hsz hL hsh _
 exact contract H enc W base args ds gs before hval hW hsz (hcond _ rfl) hL hsh

theorem own0 : (Rows.mappingOverlapsUptoRow.wf (OpenSpec.ofChange (Rows.OpenSpec.upto Rows.mappingOverlapsSpec).bare)) = true:=by kernel_rfl
theorem own1 : (laidOutB Tryz.pinned.checked.prog) = true:=fact1
theorem own2 : (mapsRowed Tryz.pinned.checked.prog) = true:=fact2
theorem own3 : (Tryz.f4.params.all (Tryz.pinned.checked.prog.readableRec ·)) = true:=by kernel_rfl
theorem own4 : (namedTie Tryz.pinned.checked.prog Rows.mappingOverlapsUptoRow.named (Rows.OpenSpec.upto Rows.mappingOverlapsSpec).bare.vars) = true:=by kernel_rfl
theorem own5 : ((Rows.mappingOverlapsUptoRow.stops == [])) = true:=by kernel_rfl
theorem own6 : ((Tryz.pinned.checked.prog.stops == [])) = true:=fact6
theorem own7 : ((Rows.mappingOverlapsUptoRow.knobs == [])) = true:=by kernel_rfl
theorem own8 : ((Tryz.pinned.checked.prog.stopKnobs == [])) = true:=fact8
theorem own9 : ((Rows.mappingOverlapsUptoRow.inPlace == Tryz.pinned.checked.prog.inPlace 4)) = true:=by kernel_rfl
theorem own10 : ((Rows.mappingOverlapsUptoRow.unfollowed == Tryz.pinned.checked.prog.unfollowed 4)) = true:=by kernel_rfl
theorem own11 : ((Rows.mappingOverlapsUptoRow.recurses == Tryz.pinned.checked.prog.recurses 4)) = true:=by kernel_rfl
theorem own12 : ((Rows.mappingOverlapsUptoRow.named == Tryz.pinned.checked.prog.varsNamed 4)) = true:=by kernel_rfl
theorem own13 : ((Rows.mappingOverlapsUptoRow.maps == (Tryz.f4.params.toList ++ (Rows.OpenSpec.upto Rows.mappingOverlapsSpec).bare.plain.varTypes Tryz.pinned.checked.prog).any (Tryz.pinned.checked.prog.mapsRec ·))) = true:=by kernel_rfl
theorem own14 : ((Rows.mappingOverlapsUptoRow.ifaces == (Tryz.f4.params.toList ++ (Rows.OpenSpec.upto Rows.mappingOverlapsSpec).bare.plain.varTypes Tryz.pinned.checked.prog).any (Tryz.pinned.checked.prog.ifacesRec ·))) = true:=by kernel_rfl
theorem own15 : ((Rows.mappingOverlapsUptoRow.mapsOut == Tryz.pinned.checked.prog.mapsAmong Tryz.f4.resultTypes.toList)) = true:=by kernel_rfl
theorem own16 : ((Rows.mappingOverlapsUptoRow.loops == (Tryz.f4.params.toList ++ (Rows.OpenSpec.upto Rows.mappingOverlapsSpec).bare.plain.varTypes Tryz.pinned.checked.prog).any (Tryz.pinned.checked.prog.loopsFrom ·))) = true:=by kernel_rfl
theorem own17 : ((Rows.mappingOverlapsUptoRow.wideKeys == (Tryz.f4.params.toList ++ (Rows.OpenSpec.upto Rows.mappingOverlapsSpec).bare.plain.varTypes Tryz.pinned.checked.prog ++ Tryz.f4.resultTypes.toList).any (Tryz.pinned.checked.prog.wideKeysFrom ·))) = true:=by kernel_rfl
theorem own18 : ((Rows.OpenSpec.upto Rows.mappingOverlapsSpec).bare.vars.all (Tryz.pinned.checked.prog.varReadable ·)) = true:=by kernel_rfl
theorem own19 : (Tryz.f4.resultTypes.all (fun t=>Tryz.pinned.checked.prog.readableRec t && decide (t < Tryz.pinned.checked.prog.types.size))) = true:=by kernel_rfl
theorem own20 : ((Rows.mappingOverlapsUptoRow.ifacesOut == Tryz.f4.resultTypes.toList.any (Tryz.pinned.checked.prog.ifacesRec ·))) = true:=by kernel_rfl
theorem own21 : ((Rows.mappingOverlapsUptoRow.loopsOut == Tryz.f4.resultTypes.toList.any (Tryz.pinned.checked.prog.loopsFrom ·))) = true:=by kernel_rfl
theorem own22 : ((Rows.mappingOverlapsUptoRow.plainKeys == Tryz.pinned.checked.prog.plainKeys)) = true:=fact22
theorem own23 : (Rows.mappingOverlapsUptoRow.shortTexts.isNone) = true:=by kernel_rfl
theorem own24 : (Tryz.pinned.checked.prog.stopsHeard) = true:=fact24
theorem own25 : (Tryz.pinned.checked.prog.mayEnter) = true:=fact25
theorem own26 : ((Rows.mappingOverlapsUptoRow.lifted == Tryz.pinned.checked.prog.liftsFinal)) = true:=fact26
theorem own27 : ((Tryz.pinned.checked.prog.make == some Rows.mappingOverlapsUptoRow.make)) = true:=fact27
theorem own28 : ((Rows.mappingOverlapsUptoRow.kinds == (if Rows.mappingOverlapsUptoRow.domain.isEmpty then [] else Tryz.f4.params.toList.map fun t=>match Tryz.pinned.checked.prog.underlying t with | some (.int k)=>some k | _=>none))) = true:=by kernel_rfl
theorem own29 : ((Rows.mappingOverlapsUptoRow.pinned == Rows.mappingOverlapsUptoRow.pinnedBy)) = true:=by kernel_rfl
theorem own30 : ((Rows.mappingOverlapsUptoRow.veiled == (Tryz.f4.params.toList ++ (Rows.OpenSpec.upto Rows.mappingOverlapsSpec).bare.plain.varTypes Tryz.pinned.checked.prog ++ Tryz.f4.resultTypes.toList).any (Tryz.pinned.checked.prog.veiledRec ·))) = true:=by kernel_rfl
theorem own31 : (Rows.mappingOverlapsUptoRow.veiledFits Tryz.pinned.checked.prog Tryz.f4.params.toList (Tryz.f4.params.toList ++ (Rows.OpenSpec.upto Rows.mappingOverlapsSpec).bare.plain.varTypes Tryz.pinned.checked.prog ++ Tryz.f4.resultTypes.toList)) = true:=by kernel_rfl
theorem closed : joinedFacts Tryz.pinned.checked.prog 4 Tryz.f4 (Rows.OpenSpec.upto Rows.mappingOverlapsSpec).bare Rows.mappingOverlapsUptoRow = true:=(fact_and (fact_and (fact_and (fact_and (fact_and (fact_and (fact_and (fact_and (fact_and (fact_and (fact_and (fact_and (fact_and (fact_and (fact_and (fact_and (fact_and (fact_and (fact_and (fact_and (fact_and (fact_and (fact_and (fact_and (fact_and (fact_and (fact_and (fact_and (fact_and (fact_and (fact_and own0 own1) own2) own3) own4) own5) own6) own7) own8) own9) own10) own11) own12) own13) own14) own15) own16) own17) own18) own19) own20) own21) own22) own23) own24) own25) own26) own27) (by kernel_rfl)) own29) own30) own31)
theorem named : Tryz.pinned.checked.prog.funcNamed Rows.mappingOverlapsUptoRow.func = some 4:=by kernel_rfl
theorem named2 : Tryz.prog.funcNamed "stockyard/stockyardlaw07.MappingOverlaps" = some 4 := by kernel_rfl
theorem inst : (Tryz.f4).isInstance Tryz.pinned.checked.prog Rows.mappingOverlapsUptoRow.origin Rows.mappingOverlapsUptoRow.targs:=of_decide_eq_true (by kernel_rfl)
theorem wrap : (Tryz.f4).isWrapper Tryz.pinned.checked.prog Rows.mappingOverlapsUptoRow.wrapper Rows.mappingOverlapsUptoRow.mainSum:=by unfold Func.isWrapper;first | (rw [if_pos (by decide +kernel)];kernel_rfl) | (rw [if_neg (by decide +kernel)];exact ⟨rfl,rfl⟩)
theorem goes : false = Rows.mappingOverlapsUptoRow.goesBy Tryz.pinned.checked.prog:=by kernel_rfl
theorem said : Rows.MappingOverlapsUptoSaid:=
 OpenClaim.holds_of_cond 4 Tryz.f4 rfl rfl rfl rfl rfl rfl rfl ⟨rfl,rfl,rfl,rfl,rfl⟩ rfl rfl rfl rfl rfl named Tryz.func4 closed
  inst wrap
  (fun os started H enc _ F=>by rw [OpenClaim.pre_eq_preRow];exact lifted os started H enc F)
theorem plain (f : FuncId) (fn : Func) (hf : Tryz.pinned.checked.prog.funcNamed "stockyard/stockyardlaw07.MappingOverlaps" = some f) (hfn : Tryz.pinned.checked.prog.funcs[f]? = some fn) :
  false = Tryz.pinned.checked.prog.looks [] ∧ ∀ (j : Nat) t,fn.params[j]? = some t → Tryz.pinned.checked.prog.wantsStandIn t = false:=by
 obtain rfl : f = 4 := Option.some.inj ((show Tryz.prog.funcNamed "stockyard/stockyardlaw07.MappingOverlaps" = some 4 from named2).symm.trans hf) |>.symm
 obtain rfl : fn = Tryz.f4:=(Option.some.inj (Tryz.func4.symm.trans hfn)).symm
 refine ⟨factLooks,fun j t ht=>?_⟩
 rw [Tryz.params4] at ht
 have hm:=Array.mem_of_getElem? ht
 simp only [List.mem_toArray,List.mem_cons,List.not_mem_nil,or_false] at hm
 rcases hm with rfl | rfl
 ·exact (show Tryz.prog.wantsStandIn 22 = false by kernel_rfl)
 ·exact (show Tryz.prog.wantsStandIn 22 = false by kernel_rfl)
theorem card : Rows.MappingOverlapsUptoCardSaid:=
 Claim7.holds_tied_plain_at .later [] _ _ _ _ said (fun _ h=>by cases h) (by kernel_rfl) (fun _ h=>by cases h) mappingOverlapsUpto_row_tie rfl ⟨rfl,rfl⟩ (by kernel_rfl) rfl plain goes
end Go.Proofs.YtnlnclefedohkaaGreatDoor.mappingOverlapsUpto
