/- Streams as arguments of at most 1048576 values and letters: opened to lists. -/
import Derived.Test.YtdcdabbepnahnaaGreatDoorProg
import Derived.ProofKit
import Derived.OpenShut
import Derived.SizedLaws
import Derived.Deep.Strs
import Derived.Deep.Slices
import Derived.ChangeSame
import Derived.Test.YtdcdabbepnahnaaGreatDoorRows
import Derived.Test.YtdcdabbepnahnaaGreatDoorZOwn
import Derived.Test.YtdcdabbepnahnaaGreatDoorZEntM
import Derived.Test.YtdcdabbepnahnaaGreatDoorZStrMem
set_option linter.unusedVariables false
set_option linter.unusedSimpArgs false
namespace Go.Proofs.YtdcdabbepnahnaaGreatDoor
open Go Go.ChangeShapes Go.WideShapes Go.RowKit Go.Deep Sy

theorem cell_lt {w : World} {a : Addr} {v : Value} (h : w.cell? a = some v) : a.block < w.heap.size ∧ a.spot = none:=by
 unfold World.cell? at h
 split at h
 ·rename_i h1
  constructor
  ·rcases Nat.lt_or_ge a.block w.heap.size with h2 | h2
   ·exact h2
   ·rw [Array.getElem?_eq_none h2] at h1;cases h1
  ·split at h
   ·cases h
   ·rename_i h2;simpa using h2
 ·cases h

section
variable {H : Type} {enc : TypeId × Value → H} {w : World}

theorem u_strs : Tryz.prog.underlying 41 = some (.slice 9):=Tryz.underlying41
theorem u_str : Tryz.prog.underlying 9 = some .string:=Tryz.underlying9
theorem u_bool : Tryz.prog.underlying 4 = some .bool:=Tryz.underlying4
theorem c_str : Tryz.prog.cellsOf 9 = 1:=by kernel_rfl
theorem c_pat : Tryz.prog.cellsOf 51 = 2:=by kernel_rfl
set_option maxRecDepth 20000 in
theorem open_strD {v : Value} {b0 : Nat} {d : DataW H} {p : List MemPlace} (hv : Value.okWide Tryz.prog w .any b0 9 v) (h : DataW.Trod enc Tryz.prog w 0 (fun _=>true) true 9 v d p) :
  ∃ s : Str,v = .string (bs s) ∧ d = .lit (.string s) ∧ s.length ≤ 9223372036854775807:=by
 obtain ⟨s,rfl,hd,_,hs⟩:=Go.ChangeMaps.open_string Tryz.underlying9 hv h
 refine ⟨s.data.toList,by rw [bs_eta],hd,?_⟩
 have h2 : s.data.toList.length = s.size:=rfl
 rw [h2]
 exact hs
end
end Go.Proofs.YtdcdabbepnahnaaGreatDoor
set_option linter.unusedVariables false
set_option linter.unusedSimpArgs false
namespace Go.Proofs.YtdcdabbepnahnaaGreatDoor.bulks

theorem one_le {H : Type} (d : DataW H) : 1 ≤ Rows.uptoBulk d:=by
 cases d with
 |lit l=>cases l <;> simp [Rows.uptoBulk]
 |nil=>simp [Rows.uptoBulk]
 |ptr d=>simp [Rows.uptoBulk]
 |slice elems spare=>simp [Rows.uptoBulk]
 |agg parts=>simp [Rows.uptoBulk]
 |iface t d=>simp [Rows.uptoBulk]
 |map entries=>simp [Rows.uptoBulk]
 |held h=>simp [Rows.uptoBulk]
theorem part_le {H : Type} {d : DataW H} {l : List (DataW H)} (h : d ∈ l) : Rows.uptoBulk d ≤ Rows.uptoBulkAll l:=by
 induction l with
 |nil=>cases h
 |cons x r ih=>
  simp only [Rows.uptoBulkAll]
  cases List.mem_cons.1 h with
  |inl e=>subst e;omega
  |inr e=>have:=ih e;omega
theorem length_le {H : Type} (l : List (DataW H)) : l.length ≤ Rows.uptoBulkAll l:=by
 induction l with
 |nil=>simp [Rows.uptoBulkAll]
 |cons x r ih=>have:=one_le x;simp only [Rows.uptoBulkAll,List.length_cons];omega
theorem slice_le {H : Type} (elems spare : List (DataW H)) : elems.length + spare.length + 1 ≤ Rows.uptoBulk (.slice elems spare):=by
 have h1:=length_le elems
 have h2:=length_le spare
 simp only [Rows.uptoBulk]
 omega
theorem slice_elems {H : Type} (elems spare : List (DataW H)) : Rows.uptoBulkAll elems + 1 ≤ Rows.uptoBulk (.slice elems spare):=by
 simp only [Rows.uptoBulk]
 omega
theorem slice_part {H : Type} {d : DataW H} {elems spare : List (DataW H)} (h : d ∈ elems) : Rows.uptoBulk d ≤ Rows.uptoBulk (.slice elems spare):=by
 have h1:=part_le h
 have h2:=slice_elems elems spare
 omega
theorem agg_part {H : Type} {d : DataW H} {parts : List (DataW H)} (h : d ∈ parts) : Rows.uptoBulk d ≤ Rows.uptoBulk (.agg parts):=by
 have h1:=part_le h
 simp only [Rows.uptoBulk]
 omega
theorem all_part {H : Type} {d : DataW H} {l : List (DataW H)} {B : Nat} (hb : Rows.uptoBulkAll l ≤ B) (h : d ∈ l) : Rows.uptoBulk d ≤ B:=Nat.le_trans (part_le h) hb
theorem string_eq {H : Type} (bytes : List UInt8) : Rows.uptoBulk (DataW.lit (H:=H) (.string bytes)) = bytes.length + 1:=by
 simp [Rows.uptoBulk]
end Go.Proofs.YtdcdabbepnahnaaGreatDoor.bulks
set_option linter.unusedVariables false
set_option linter.unusedSimpArgs false
namespace Go.Proofs.YtdcdabbepnahnaaGreatDoor
open Go Go.ChangeShapes Go.WideShapes Go.RowKit Go.Deep Sy
section
variable {H : Type} {enc : TypeId × Value → H} {w : World}
set_option maxRecDepth 20000 in
theorem open_strU {fuel : Nat} {cs : List Value} {x : DataW H × List MemPlace} (h : DataW.trod enc Tryz.prog w 0 (fun _=>true) true fuel 41 cs = some x) (hb : Rows.uptoBulk x.1 ≤ 1048576) :
  ∃ A ls c,cs = [.slice A (List.length ls) c] ∧ ls.length ≤ c ∧ c ≤ 140737488355328 ∧ StrsU w A ls:=by
 rcases open_strs u_strs u_str c_str h with ⟨rfl,rfl⟩ | ⟨a,len,cap,m,Sx,rfl,_,hl,hm,hmm,rfl,hx⟩
 ·exact ⟨none,[],0,rfl,Nat.le_refl _,by decide,by simp,(fun l hl=>by cases hl),(fun h0=>absurd h0 (Nat.lt_irrefl _))⟩
 ·have hmc : m = cap:=hmm
  subst hmc
  have hs:=bulks.slice_le ((List.range len).map fun i=>DataW.lit (H:=H) (.string (Sx i).data.toList)) ((List.range (m - len)).map fun j=>.lit (.string (Sx (len + j)).data.toList))
  simp only [List.length_map,List.length_range] at hs
  have heach : ∀ i,i < len → (Sx i).data.toList.length ≤ 1048576:=fun i hi=>by
   have h1:=bulks.slice_part (spare:=(List.range (m - len)).map fun j=>DataW.lit (H:=H) (.string (Sx (len + j)).data.toList)) (List.mem_map.2 ⟨i,List.mem_range.2 hi,rfl⟩ : DataW.lit (H:=H) (.string (Sx i).data.toList) ∈ (List.range len).map fun i=>DataW.lit (H:=H) (.string (Sx i).data.toList))
   rw [bulks.string_eq] at h1
   have h2:=Nat.le_trans h1 hb
   omega
  have hcl : m ≤ 1048576:=by
   have h2:=Nat.le_trans hs hb
   omega
  refine ⟨some a,(List.range len).map fun i=>(Sx i).data.toList,m,by simp,by simpa using hl,by omega,by simp;omega,fun l hl2=>?_,fun h0=>?_⟩
  ·obtain ⟨i,hi,rfl⟩:=List.mem_map.1 hl2
   exact heach i (List.mem_range.1 hi)
  ·have h0' : 0 < len:=by simpa using h0
   obtain ⟨q1,q2⟩:=cell_lt (hx 0 (by omega)).1
   obtain ⟨ab,ao,asp⟩:=a
   have q3 : asp = none:=q2
   subst q3
   refine ⟨ab,ao,rfl,q1,fun k l hk=>?_⟩
   rw [List.getElem?_map] at hk
   obtain ⟨i,hi,rfl⟩:=Option.map_eq_some_iff.1 hk
   obtain ⟨hlt,he⟩:=List.getElem?_eq_some_iff.1 hi
   rw [List.getElem_range] at he
   subst he
   rw [List.length_range] at hlt
   have:=(hx k (by omega)).1
   rw [add_plain] at this
   rw [this,bs_eta]

set_option maxRecDepth 20000 in
theorem open_patU {fuel : Nat} {cs : List Value} {x : DataW H × List MemPlace} (h : DataW.trod enc Tryz.prog w 0 (fun _=>true) true fuel 51 cs = some x) (hb : Rows.uptoBulk x.1 ≤ 1048576) :
  ∃ (p : Pat) (A : Option Addr) (c : Nat),cs = [.slice A p.parts.length c,.bool p.rest] ∧ p.parts.length ≤ c ∧ c ≤ 140737488355328 ∧ StrsU w A p.parts:=by
 obtain ⟨y0,y1,n,rfl,hlen,h0,h1⟩:=trod_struct2 Tryz.underlying51 h
 rw [c_pat] at hlen
 match cs,hlen with
 |[c0,c1],_=>
  have e0 : DataW.trod enc Tryz.prog w 0 (fun _=>true) true n 41 [c0] = some y0:=h0
  have e1 : DataW.trod enc Tryz.prog w 0 (fun _=>true) true n 4 [c1] = some y1:=h1
  obtain ⟨A,ls,c,g1,g2,g3,g4⟩:=open_strU e0 (Nat.le_trans (bulks.agg_part (by simp)) hb)
  obtain ⟨r,g5,_⟩:=DataW.trod_bool u_bool e1
  simp only [List.cons.injEq,and_true] at g1 g5
  subst g1
  subst g5
  exact ⟨⟨ls,r⟩,A,c,rfl,g2,g3,g4⟩

end
end Go.Proofs.YtdcdabbepnahnaaGreatDoor
set_option linter.unusedVariables false
set_option linter.unusedSimpArgs false
namespace Go.Proofs.YtdcdabbepnahnaaGreatDoor
open Go Go.ChangeShapes Go.WideShapes Go.RowKit Go.Deep Sy
section
variable {H : Type} {enc : TypeId × Value → H} {w : World}
theorem u_strms : Tryz.prog.underlying 22 = some (.slice 49):=Tryz.underlying22
theorem u_lines : Tryz.prog.underlying 47 = some (.slice 53):=Tryz.underlying47
theorem u_int : Tryz.prog.underlying 3 = some (.int .i64):=Tryz.underlying3
theorem c_line : Tryz.prog.cellsOf 53 = 5:=by kernel_rfl
theorem c_strm : Tryz.prog.cellsOf 49 = 3:=by kernel_rfl

set_option maxRecDepth 20000 in
theorem open_lineU {fuel : Nat} {cs : List Value} {x : DataW H × List MemPlace} (h : DataW.trod enc Tryz.prog w 0 (fun _=>true) true fuel 53 cs = some x) (hb : Rows.uptoBulk x.1 ≤ 1048576) :
  ∃ (r : Line) (a : Pl),cs = [.int .i64 r.kind,.slice a.AL r.path.parts.length a.cl,.bool r.path.rest,.slice a.AR r.frm.parts.length a.cr,.bool r.frm.rest] ∧ RuleU w a r.rule:=by
 obtain ⟨y0,y1,y2,n,rfl,hlen,h0,h1,h2⟩:=trod_struct3 Tryz.underlying53 h
 rw [c_line] at hlen
 match cs,hlen with
 |[c0,c1,c2,c3,c4],_=>
  have e0 : DataW.trod enc Tryz.prog w 0 (fun _=>true) true n 3 [c0] = some y0:=h0
  have e1 : DataW.trod enc Tryz.prog w 0 (fun _=>true) true n 51 [c1,c2] = some y1:=by simpa [c_pat] using h1
  have e2 : DataW.trod enc Tryz.prog w 0 (fun _=>true) true n 51 [c3,c4] = some y2:=by simpa [c_pat] using h2
  obtain ⟨k0,g0,_⟩:=DataW.trod_int u_int e0
  obtain ⟨p1,A1,k1,g1,g2,g3,g4⟩:=open_patU e1 (Nat.le_trans (bulks.agg_part (by simp)) hb)
  obtain ⟨p2,A2,k2,j1,j2,j3,j4⟩:=open_patU e2 (Nat.le_trans (bulks.agg_part (by simp)) hb)
  simp only [List.cons.injEq,and_true] at g0 g1 j1
  subst g0
  obtain ⟨rfl,rfl⟩:=g1
  obtain ⟨rfl,rfl⟩:=j1
  exact ⟨⟨k0,p1,p2⟩,⟨A1,k1,A2,k2⟩,rfl,g4,j4,g2,j2,Nat.le_trans g3 (by decide),Nat.le_trans j3 (by decide)⟩

set_option maxRecDepth 20000 in
theorem open_linesU {fuel : Nat} {cs : List Value} {x : DataW H × List MemPlace} (h : DataW.trod enc Tryz.prog w 0 (fun _=>true) true fuel 47 cs = some x) (hb : Rows.uptoBulk x.1 ≤ 1048576) :
  ∃ A ls c,cs = [.slice A (List.length ls) c] ∧ ls.length ≤ c ∧ c ≤ 1048576 ∧ LinesU w A ls:=by
 rcases open_slice u_lines h with ⟨rfl,rfl⟩ | ⟨a,len,cap,m,n,D,Pq,rfl,_,hl,hm,hmm,rfl,hx⟩
 ·exact ⟨none,[],0,rfl,Nat.le_refl _,by decide,by simp,(fun h0=>absurd h0 (Nat.lt_irrefl _))⟩
 ·have hmc : m = cap:=hmm
  subst hmc
  have hs:=bulks.slice_le ((List.range len).map D) ((List.range (m - len)).map fun j=>D (len + j))
  simp only [List.length_map,List.length_range] at hs
  have hcl : m ≤ 1048576:=by
   have h2:=Nat.le_trans hs hb
   omega
  have each : ∀ i,i < len → ∃ y : Line × Pl,(∀ ab ao,a = ⟨ab,ao,none⟩ → LineAt w ab (ao + i * 5) y.2 y.1) ∧ RuleU w y.2 y.1.rule ∧ (w.cell? (a.add (i * 5))).isSome = true:=fun i hi=>by
   obtain ⟨cs',hc,ht⟩:=hx i (by omega)
   rw [c_line] at hc
   obtain ⟨r,p,rfl,g⟩:=open_lineU ht (Nat.le_trans (bulks.slice_part (List.mem_map.2 ⟨i,List.mem_range.2 hi,rfl⟩)) hb)
   obtain ⟨_,_,hat⟩:=World.cells?_some hc
   have h0:=hat 0 (by decide)
   have h1:=hat 1 (by decide)
   have h2:=hat 2 (by decide)
   have h3:=hat 3 (by decide)
   have h4:=hat 4 (by decide)
   refine ⟨⟨r,p⟩,fun ab ao e=>?_,g,?_⟩
   ·subst e
    rw [add_plain] at h0 h1 h2 h3 h4
    rw [add_plain] at h0 h1 h2 h3 h4
    exact ⟨h0,h1,h2,h3,h4⟩
   ·have h5 : (a.add (i * 5)).add 0 = a.add (i * 5):=by simp [Addr.add]
    rw [h5] at h0
    rw [h0]
    rfl
  obtain ⟨R,hR⟩:=choose_lt each
  refine ⟨some a,(List.range len).map fun i=>(R i).1,m,by simp,by simpa using hl,hcl,by simp;omega,fun h0=>?_⟩
  have h0' : 0 < len:=by simpa using h0
  obtain ⟨q0,hq0⟩:=Option.isSome_iff_exists.1 (hR 0 h0').2.2
  obtain ⟨q1,q2⟩:=cell_lt hq0
  obtain ⟨ab,ao,asp⟩:=a
  have q3 : asp = none:=q2
  subst q3
  refine ⟨ab,ao,rfl,q1,fun k r hk=>?_⟩
  rw [List.getElem?_map] at hk
  obtain ⟨i,hi,rfl⟩:=Option.map_eq_some_iff.1 hk
  obtain ⟨hlt,he⟩:=List.getElem?_eq_some_iff.1 hi
  rw [List.getElem_range] at he
  subst he
  rw [List.length_range] at hlt
  exact ⟨(R k).2,(hR k hlt).1 ab ao rfl,(hR k hlt).2.1⟩

set_option maxRecDepth 20000 in
theorem open_strmU {fuel : Nat} {cs : List Value} {x : DataW H × List MemPlace} (h : DataW.trod enc Tryz.prog w 0 (fun _=>true) true fuel 49 cs = some x) (hb : Rows.uptoBulk x.1 ≤ 1048576) :
  ∃ (s : Strm) (A : Option Addr) (c : Nat),cs = [.string (bs s.name),.string (bs s.parent),.slice A s.paths.length c] ∧ StrmU w A c s ∧ s.paths.length ≤ 1048576:=by
 obtain ⟨y0,y1,y2,n,rfl,hlen,h0,h1,h2⟩:=trod_struct3 Tryz.underlying49 h
 rw [c_strm] at hlen
 match cs,hlen with
 |[c0,c1,c2],_=>
  have e0 : DataW.trod enc Tryz.prog w 0 (fun _=>true) true n 9 [c0] = some y0:=h0
  have e1 : DataW.trod enc Tryz.prog w 0 (fun _=>true) true n 9 [c1] = some y1:=h1
  have e2 : DataW.trod enc Tryz.prog w 0 (fun _=>true) true n 47 [c2] = some y2:=h2
  obtain ⟨s0,g0,rfl,_⟩:=DataW.trod_string u_str e0
  obtain ⟨s1,g1,rfl,_⟩:=DataW.trod_string u_str e1
  obtain ⟨A,ls,c,j1,j2,j3,j4⟩:=open_linesU e2 (Nat.le_trans (bulks.agg_part (by simp)) hb)
  simp only [List.cons.injEq,and_true] at g0 g1 j1
  subst g0
  subst g1
  subst j1
  have b0:=Nat.le_trans (bulks.agg_part (d:=DataW.lit (H:=H) (.string s0.data.toList)) (parts:=[DataW.lit (.string s0.data.toList),DataW.lit (.string s1.data.toList),y2.1]) (by simp)) hb
  have b1:=Nat.le_trans (bulks.agg_part (d:=DataW.lit (H:=H) (.string s1.data.toList)) (parts:=[DataW.lit (.string s0.data.toList),DataW.lit (.string s1.data.toList),y2.1]) (by simp)) hb
  rw [bulks.string_eq] at b0 b1
  exact ⟨⟨s0.data.toList,s1.data.toList,ls⟩,A,c,by simp only [bs_eta],⟨by show s0.data.toList.length ≤ _;omega,by show s1.data.toList.length ≤ _;omega,j4,j2,Nat.le_trans j3 (by decide)⟩,Nat.le_trans j2 j3⟩

set_option maxRecDepth 20000 in
theorem open_strmsU {fuel : Nat} {cs : List Value} {x : DataW H × List MemPlace} (h : DataW.trod enc Tryz.prog w 0 (fun _=>true) true fuel 22 cs = some x) (hb : Rows.uptoBulk x.1 ≤ 1048576) :
  ∃ A ss c,cs = [.slice A (List.length ss) c] ∧ ss.length ≤ c ∧ c ≤ 1048576 ∧ StrmsU w A ss ∧ ∀ t ∈ ss,t.paths.length ≤ 1048576:=by
 rcases open_slice u_strms h with ⟨rfl,rfl⟩ | ⟨a,len,cap,m,n,D,Pq,rfl,_,hl,hm,hmm,rfl,hx⟩
 ·exact ⟨none,[],0,rfl,Nat.le_refl _,by decide,⟨by simp,(fun h0=>absurd h0 (Nat.lt_irrefl _))⟩,(fun t ht=>by cases ht)⟩
 ·have hmc : m = cap:=hmm
  subst hmc
  have hs:=bulks.slice_le ((List.range len).map D) ((List.range (m - len)).map fun j=>D (len + j))
  simp only [List.length_map,List.length_range] at hs
  have hcl : m ≤ 1048576:=by
   have h2:=Nat.le_trans hs hb
   omega
  have each : ∀ i,i < len → ∃ y : Strm × Option Addr × Nat,(∀ ab ao,a = ⟨ab,ao,none⟩ → StrmAt w ab (ao + i * 3) y.2.1 y.2.2 y.1) ∧ StrmU w y.2.1 y.2.2 y.1 ∧ (w.cell? (a.add (i * 3))).isSome = true ∧ y.1.paths.length ≤ 1048576:=fun i hi=>by
   obtain ⟨cs',hc,ht⟩:=hx i (by omega)
   rw [c_strm] at hc
   obtain ⟨r,A,c,rfl,g⟩:=open_strmU ht (Nat.le_trans (bulks.slice_part (List.mem_map.2 ⟨i,List.mem_range.2 hi,rfl⟩)) hb)
   obtain ⟨_,_,hat⟩:=World.cells?_some hc
   have h0:=hat 0 (by decide)
   have h1:=hat 1 (by decide)
   have h2:=hat 2 (by decide)
   refine ⟨⟨r,A,c⟩,fun ab ao e=>?_,g.1,?_,g.2⟩
   ·subst e
    rw [add_plain] at h0 h1 h2
    rw [add_plain] at h0 h1 h2
    exact ⟨h0,h1,h2⟩
   ·have h5 : (a.add (i * 3)).add 0 = a.add (i * 3):=by simp [Addr.add]
    rw [h5] at h0
    rw [h0]
    rfl
  obtain ⟨R,hR⟩:=choose_lt each
  refine ⟨some a,(List.range len).map fun i=>(R i).1,m,by simp,by simpa using hl,hcl,⟨by simp;omega,fun h0=>?_⟩,fun t ht=>by
   obtain ⟨i,hi,rfl⟩:=List.mem_map.1 ht
   exact (hR i (List.mem_range.1 hi)).2.2.2⟩
  have h0' : 0 < len:=by simpa using h0
  obtain ⟨q0,hq0⟩:=Option.isSome_iff_exists.1 (hR 0 h0').2.2.1
  obtain ⟨q1,q2⟩:=cell_lt hq0
  obtain ⟨ab,ao,asp⟩:=a
  have q3 : asp = none:=q2
  subst q3
  refine ⟨ab,ao,rfl,q1,fun k r hk=>?_⟩
  rw [List.getElem?_map] at hk
  obtain ⟨i,hi,rfl⟩:=Option.map_eq_some_iff.1 hk
  obtain ⟨hlt,he⟩:=List.getElem?_eq_some_iff.1 hi
  rw [List.getElem_range] at he
  subst he
  rw [List.length_range] at hlt
  exact ⟨(R k).2.1,(R k).2.2,(hR k hlt).1 ab ao rfl,(hR k hlt).2.1⟩

set_option maxRecDepth 20000 in
theorem open_strmsL {v : Value} {b0 : Nat} {d : DataW H} {p : List MemPlace} (hv : Value.okWide Tryz.prog w .any b0 22 v) (h : DataW.Trod enc Tryz.prog w 0 (fun _=>true) true 22 v d p) (hb : Rows.uptoBulk d ≤ 1048576) :
  ∃ (A : Option Addr) (ss : List Strm) (c : Nat),v = .slice A ss.length c ∧ StrmsU w A ss ∧ ss.length ≤ c ∧ c ≤ 1048576 ∧ ∀ t ∈ ss,t.paths.length ≤ 1048576:=by
 obtain ⟨a0,len,cap,rfl⟩:=okWide_slice Tryz.underlying22 hv
 obtain ⟨fuel,hf⟩:=h
 obtain ⟨A,ss,c,h1,h2,h3,h4,h5⟩:=open_strmsU hf hb
 simp only [Value.cells,List.cons.injEq,and_true] at h1
 exact ⟨A,ss,c,h1,h4,h2,h3,h5⟩
end
end Go.Proofs.YtdcdabbepnahnaaGreatDoor
