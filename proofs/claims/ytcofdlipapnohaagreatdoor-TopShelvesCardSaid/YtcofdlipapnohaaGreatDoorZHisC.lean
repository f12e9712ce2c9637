/- Walks: history's check of a change that is appended to the empty depot. -/
import Derived.Deep.Upon
import Derived.Laws.IdiomCopy
import Derived.Maps.OwnSet
import Derived.Deep.RegionHeld3
import Derived.Deep.DeepCutAuto
import Derived.Test.YtcofdlipapnohaaGreatDoorZEdRow
import Derived.Test.YtcofdlipapnohaaGreatDoorZNewS
import Derived.Test.YtcofdlipapnohaaGreatDoorZMeetW
set_option linter.unusedVariables false
set_option linter.unusedSimpArgs false
namespace Go.Proofs.YtcofdlipapnohaaGreatDoor
open Go Go.RowKit Sy
theorem byte_ne {x y:UInt8} (h:x≠y):((x.toNat:Int) == (y.toNat:Int))=false:=by
 rw[beq_eq_false_iff_ne]
 intro e
 exact h (UInt8.toNat_inj.1 (by omega))
theorem byte_ne47 {x:UInt8} (h:x≠47):((x.toNat:Int) == 47)=false:=by
 rw[beq_eq_false_iff_ne]
 intro e
 exact h (UInt8.toNat_inj.1 (by simp;omega))
set_option maxRecDepth 100000 in
set_option maxHeartbeats 4000000 in
theorem pcompare_c (a b:Str) (w:World) (ha:a.length≤140737488355000) (hb:b.length≤140737488355000) :
  Calls Tryz.prog 86 #[.string (bs a),.string (bs b)] w fun e w'=>e=.returned (.tuple #[.int .i64 (cmpP a b).1,.int .i64 (cmpP a b).2])∧Calm w w':=by
 obtain⟨va,hva⟩:∃v,validS a=v:=⟨_,rfl⟩
 obtain⟨vb,hvb⟩:∃v,validS b=v:=⟨_,rfl⟩
 have KA:Hid (∀W,Calls Tryz.prog 122 #[.string (bs a)] W fun e w'=>e=.returned (.bool va)∧W=w'):=fun W=>pvalid_v a va W ha hva
 have KB:Hid (∀W,Calls Tryz.prog 122 #[.string (bs b)] W fun e w'=>e=.returned (.bool vb)∧W=w'):=fun W=>pvalid_v b vb W hb hvb
 have hsa:=bs_size a
 have hsb:=bs_size b
 obtain⟨R,hR⟩:∃R,cmpP a b=R:=⟨_,rfl⟩
 rw[hR]
 by_cases hv:va=true∧vb=true
 ·obtain⟨rfl,rfl⟩:=hv
  have hR2:R=(cmpS a b,0):=by rw[←hR,cmpP,if_pos ⟨hva,hvb⟩]
  subst hR2
  obtain⟨la,hla⟩:∃n,a.length=n:=⟨_,rfl⟩
  obtain⟨lb,hlb⟩:∃n,b.length=n:=⟨_,rfl⟩
  obtain⟨S,hS⟩:∃S,cmpS a b=S:=⟨_,rfl⟩
  obtain⟨m,hm⟩:∃m,min la lb=m:=⟨_,rfl⟩
  rw[hla] at hsa ha
  rw[hlb] at hsb hb
  have hmi:min (la:Int) (lb:Int)=(m:Int):=by rw[←hm];omega
  have HL:=Lib.hid (And.intro hla hlb)
  have HS:=Lib.hid hS
  have hml:m≤la∧m≤lb:=by omega
  have hml1:=hml.1
  have hml2:=hml.2
  have HM:=Lib.hid hm
  simp only
  rw[hS]
  clear hva hvb hR hla hlb hS hm hml
  go_enter Tryz.func86,Tryz.ntmps86
  go_wp2_with (first
   |(go_at_call 122;with_reducible refine (KA.out _).mono ?_;rintro e w' ⟨rfl,rfl⟩)
   |(go_at_call 122;with_reducible refine (KB.out _).mono ?_;rintro e w' ⟨rfl,rfl⟩))
  go_loopw [20] (fun i wr=>∃k:Nat,k≤m∧i=.int .i64 k∧Hid (Calm w wr)∧Hid (cmpS (a.drop k) (b.drop k)=S)) (fun i _=>m - (intOf i).toNat)
  case atStart=>exact⟨0,Nat.zero_le _,rfl,Calm.refl _,by rw[List.drop_zero,List.drop_zero];exact HS.out⟩
  case round=>
   obtain⟨k,hk,rfl,HC,HI⟩:=hrel
   by_cases hlt:k < m
   ·have hka:k < la:=by omega
    have hkb:k < lb:=by omega
    obtain⟨x,hx⟩:∃x,a[k]'(by rw[HL.out.1];exact hka)=x:=⟨_,rfl⟩
    obtain⟨y,hy⟩:∃y,b[k]'(by rw[HL.out.2];exact hkb)=y:=⟨_,rfl⟩
    have HDa:Hid (a.drop k=x :: a.drop (k+1)):=by
     show _=_
     rw[List.drop_eq_getElem_cons (by rw[HL.out.1];exact hka),hx]
    have HDb:Hid (b.drop k=y :: b.drop (k+1)):=by
     show _=_
     rw[List.drop_eq_getElem_cons (by rw[HL.out.2];exact hkb),hy]
    have hcs:=HI.out
    rw[HDa.out,HDb.out] at hcs
    unfold cmpS at hcs
    have hka':(k:Int) < (la:Int):=by omega
    have hkb':(k:Int) < (lb:Int):=by omega
    by_cases hxy:x=y
    ·subst hxy
     rw[if_pos rfl] at hcs
     have HN:=Lib.hid hcs
     clear hcs
     go_wp2_with fail
     go_region
     all_goals
      go_wp2_with fail
      go_roundw
      case rel=>exact⟨k+1,by omega,by go_num,(by first | exact HC.out | exact HC.out.drewN _ | exact Below.drew HC.out),HN.out⟩
      case measure=>simp[intOf];omega
    ·rw[if_neg hxy] at hcs
     have hnb:=byte_ne hxy
     by_cases hx47:x=47
     ·subst hx47
      rw[if_pos rfl] at hcs
      have HE:Hid (S=-1):=hcs.symm
      have h47:(((47:UInt8).toNat:Int) == 47)=true:=by decide
      clear hcs
      go_wp2_with fail
      go_region
      all_goals
       go_wp2_with fail
       go_ret2
       exact⟨(by rw[HE.out];rfl),(by first | exact HC.out | exact HC.out.drewN _ | exact Below.drew HC.out)⟩
     ·rw[if_neg hx47] at hcs
      have hnx:=byte_ne47 hx47
      by_cases hy47:y=47
      ·subst hy47
       rw[if_pos rfl] at hcs
       have HE:Hid (S=1):=hcs.symm
       have h47:(((47:UInt8).toNat:Int) == 47)=true:=by decide
       clear hcs
       go_wp2_with fail
       go_region
       all_goals
        go_wp2_with fail
        go_ret2
        exact⟨(by rw[HE.out];rfl),(by first | exact HC.out | exact HC.out.drewN _ | exact Below.drew HC.out)⟩
      ·rw[if_neg hy47] at hcs
       have hny:=byte_ne47 hy47
       have HE:Hid (S=cmpN (x.toNat:Int) (y.toNat:Int)):=hcs.symm
       clear hcs
       go_wp2_with fail
       go_region
       all_goals
        go_wp2_with fail
        go_region_with (go_at_call 123;refine (cmpb_c _ _ _).mono ?_;rintro e w' ⟨rfl,rfl⟩)
        all_goals
         go_wp2_with fail
         go_ret2
         exact⟨(by rw[HE.out];rfl),(by first | exact HC.out.drewN _ | exact Below.drew (Below.drew HC.out) | exact Below.drew HC.out | exact HC.out)⟩
   ·obtain rfl:k=m:=by omega
    have HE:Hid (S=cmpN (la:Int) (lb:Int)):=by
     show _=_
     rw[←HI.out,cmpS_end (by
      have h1:=HM.out
      rcases (show k=la∨k=lb by omega) with h | h
      ·exact .inl (List.drop_of_length_le (by rw[HL.out.1];omega))
      ·exact .inr (List.drop_of_length_le (by rw[HL.out.2];omega)))]
     rw[List.length_drop,List.length_drop,HL.out.1,HL.out.2]
     have:=cmpN_add (la:Int) (lb:Int) (k:Int)
     rw[←this]
     congr 1 <;> omega
    go_wp2_with (go_at_call 124;refine (cmpi_c _ _ _).mono ?_;rintro e w' ⟨rfl,rfl⟩)
    go_ret2
    exact⟨(by rw[HE.out];rfl),HC.out⟩
 ·have hR2:R=(0,20):=by
   rw[←hR,cmpP,if_neg (by rw[hva,hvb];exact hv)]
  subst hR2
  clear hR hva hvb
  simp only
  cases va with
  |false=>
   go_enter Tryz.func86,Tryz.ntmps86
   go_wp2_with (go_at_call 122;with_reducible refine (KA.out _).mono ?_;rintro e w' ⟨rfl,rfl⟩)
   go_ret2
   exact⟨rfl,Calm.refl _⟩
  |true=>
   obtain rfl:vb=false:=by simpa using hv
   clear hv
   go_enter Tryz.func86,Tryz.ntmps86
   go_wp2_with (first
    |(go_at_call 122;with_reducible refine (KA.out _).mono ?_;rintro e w' ⟨rfl,rfl⟩)
    |(go_at_call 122;with_reducible refine (KB.out _).mono ?_;rintro e w' ⟨rfl,rfl⟩))
   go_ret2
   exact⟨rfl,Calm.refl _⟩
def nameS (s:Str):Bool:=decide (s.length≤24) && comp s
def pathS (s:Str):Bool:=decide (s.length≤200) && validS s
def afterS (a b:Str):Bool:=decide ((cmpP a b).1 < 0)
theorem sname_c (s:Str) (w:World) (hl:s.length≤140737488355000):Calls Tryz.prog 93 #[.string (bs s)] w fun e w'=>e=.returned (.bool (nameS s))∧w=w':=by
 have hsz:=bs_size s
 by_cases h:s.length≤24
 ·have h':(s.length:Int)≤24:=by omega
  have hn:nameS s=comp s:=by rw[nameS,decide_eq_true h,Bool.true_and]
  rw[hn]
  clear hn
  go_enter Tryz.func93,Tryz.ntmps93
  go_wp2_with (go_at_call 132;refine (comp_c s _ (by omega)).mono ?_;rintro e w' ⟨rfl,rfl⟩)
  go_ret
  exact⟨rfl,rfl⟩
 ·have h':¬(s.length:Int)≤24:=by omega
  have hn:nameS s=false:=by rw[nameS,decide_eq_false h,Bool.false_and]
  rw[hn]
  clear hn
  go_enter Tryz.func93,Tryz.ntmps93
  go_wp2_with fail
  go_ret
  exact⟨rfl,rfl⟩
theorem lname_c (s:Str) (w:World) (hl:s.length≤140737488355000):Calls Tryz.prog 114 #[.string (bs s)] w fun e w'=>e=.returned (.bool (nameS s))∧w=w':=by
 have hsz:=bs_size s
 by_cases h:s.length≤24
 ·have h':(s.length:Int)≤24:=by omega
  have hn:nameS s=comp s:=by rw[nameS,decide_eq_true h,Bool.true_and]
  rw[hn]
  clear hn
  go_enter Tryz.func114,Tryz.ntmps114
  go_wp2_with (go_at_call 132;refine (comp_c s _ (by omega)).mono ?_;rintro e w' ⟨rfl,rfl⟩)
  go_ret
  exact⟨rfl,rfl⟩
 ·have h':¬(s.length:Int)≤24:=by omega
  have hn:nameS s=false:=by rw[nameS,decide_eq_false h,Bool.false_and]
  rw[hn]
  clear hn
  go_enter Tryz.func114,Tryz.ntmps114
  go_wp2_with fail
  go_ret
  exact⟨rfl,rfl⟩
theorem spath_c (s:Str) (w:World) (hl:s.length≤140737488355000):Calls Tryz.prog 101 #[.string (bs s)] w fun e w'=>e=.returned (.bool (pathS s))∧w=w':=by
 have hsz:=bs_size s
 by_cases h:s.length≤200
 ·have h':(s.length:Int)≤200:=by omega
  have hn:pathS s=validS s:=by rw[pathS,decide_eq_true h,Bool.true_and]
  rw[hn]
  clear hn
  go_enter Tryz.func101,Tryz.ntmps101
  go_wp2_with (go_at_call 122;refine (pvalid_c s _ hl).mono ?_;rintro e w' ⟨rfl,rfl⟩)
  go_ret
  exact⟨rfl,rfl⟩
 ·have h':¬(s.length:Int)≤200:=by omega
  have hn:pathS s=false:=by rw[pathS,decide_eq_false h,Bool.false_and]
  rw[hn]
  clear hn
  go_enter Tryz.func101,Tryz.ntmps101
  go_wp2_with fail
  go_ret
  exact⟨rfl,rfl⟩
theorem lpath_c (s:Str) (w:World) (hl:s.length≤140737488355000):Calls Tryz.prog 113 #[.string (bs s)] w fun e w'=>e=.returned (.bool (pathS s))∧w=w':=by
 have hsz:=bs_size s
 by_cases h:s.length≤200
 ·have h':(s.length:Int)≤200:=by omega
  have hn:pathS s=validS s:=by rw[pathS,decide_eq_true h,Bool.true_and]
  rw[hn]
  clear hn
  go_enter Tryz.func113,Tryz.ntmps113
  go_wp2_with (go_at_call 122;refine (pvalid_c s _ hl).mono ?_;rintro e w' ⟨rfl,rfl⟩)
  go_ret
  exact⟨rfl,rfl⟩
 ·have h':¬(s.length:Int)≤200:=by omega
  have hn:pathS s=false:=by rw[pathS,decide_eq_false h,Bool.false_and]
  rw[hn]
  clear hn
  go_enter Tryz.func113,Tryz.ntmps113
  go_wp2_with fail
  go_ret
  exact⟨rfl,rfl⟩
theorem sdesc_c (s:Str) (w:World):Calls Tryz.prog 66 #[.string (bs s)] w fun e w'=>e=.returned (.bool (decide ((s.length:Int)≤1024)))∧w=w':=by
 have hsz:=bs_size s
 go_enter Tryz.func66,Tryz.ntmps66
 go_wp2_with fail
 go_ret
 exact⟨rfl,rfl⟩
theorem lterm_c (x:Int) (w:World):Calls Tryz.prog 115 #[.int .i64 x] w fun e w'=>e=.returned (.bool (decide (1≤x) && decide (x≤1048576)))∧w=w':=by
 by_cases h:1≤x
 ·go_enter Tryz.func115,Tryz.ntmps115
  go_wp2_with fail
  go_ret
  exact⟨ret_bool (by simp[h]),rfl⟩
 ·go_enter Tryz.func115,Tryz.ntmps115
  go_wp2_with fail
  go_ret
  exact⟨ret_bool (by simp;omega),rfl⟩
theorem hlive_c (x:Int) (w:World):Calls Tryz.prog 228 #[.int .i64 x] w fun e w'=>e=.returned (.bool (!(x == 3) && !(x == 5)))∧w=w':=by
 by_cases h:x=3
 ·subst h
  go_enter Tryz.func228,Tryz.ntmps228
  go_wp2_with fail
  go_ret
  exact⟨rfl,rfl⟩
 ·have h3:(x == 3)=false:=by simpa using h
  have h4:(x != 3)=true:=by simpa using h
  go_enter Tryz.func228,Tryz.ntmps228
  go_wp2_with fail
  go_ret
  exact⟨ret_bool (by simp[h3,bne]),rfl⟩
theorem safter_c (a b:Str) (w:World) (ha:a.length≤140737488355000) (hb:b.length≤140737488355000):Calls Tryz.prog 135 #[.string (bs a),.string (bs b)] w fun e w'=>e=.returned (.bool (afterS a b))∧Calm w w':=by
 have K:=Lib.hid (pcompare_c a b w ha hb)
 unfold afterS
 obtain⟨⟨x,y⟩,hR⟩:∃R,cmpP a b=R:=⟨_,rfl⟩
 rw[hR] at K ⊢
 clear hR
 go_enter Tryz.func135,Tryz.ntmps135
 go_wp2_with fail
 refine K.out.mono ?_
 rintro e w2 ⟨rfl,hc2⟩
 go_wp2_with fail
 go_ret
 exact⟨rfl,hc2⟩
theorem hcmp2_c (a b:Str) (w:World) (ha:a.length≤140737488355000) (hb:b.length≤140737488355000):Calls Tryz.prog 148 #[.string (bs a),.string (bs b)] w fun e w'=>e=.returned (.int .i64 (cmpP a b).1)∧Calm w w':=by
 have K:=Lib.hid (pcompare_c a b w ha hb)
 obtain⟨⟨x,y⟩,hR⟩:∃R,cmpP a b=R:=⟨_,rfl⟩
 rw[hR] at K ⊢
 clear hR
 go_enter Tryz.func148,Tryz.ntmps148
 go_wp2_with fail
 refine K.out.mono ?_
 rintro e w2 ⟨rfl,hc2⟩
 go_wp2_with fail
 go_ret
 exact⟨rfl,hc2⟩
def typeE (b:Int) (k x e:Bool):Int:=if b=1 then 0 else if b=2 then (if k=false then 0 else 90) else if b=3 then (if k=false∧e=false then 0 else 90) else 90
set_option maxHeartbeats 1000000 in
theorem type_c (b:Int) (k x e:Bool) (w:World):Calls Tryz.prog 227 #[.agg #[.int .i64 b,.bool k,.bool x,.bool e]] w fun en w'=>en=.returned (.int .i64 (typeE b k x e))∧Calm w w':=by
 unfold typeE
 by_cases h1:b=1
 ·subst h1
  go_enter Tryz.func227,Tryz.ntmps227
  go_wp2_with fail
  go_ret
  exact⟨rfl,(Calm.refl _).alloc _⟩
 ·have g1:(b == 1)=false:=by simpa using h1
  by_cases h2:b=2
  ·subst h2
   cases k <;>
   ·go_enter Tryz.func227,Tryz.ntmps227
    go_wp2_with fail
    go_ret
    exact⟨rfl,(Calm.refl _).alloc _⟩
  ·have g2:(b == 2)=false:=by simpa using h2
   rw[if_neg h1,if_neg h2]
   by_cases h3:b=3
   ·subst h3
    cases k <;> cases e <;>
    ·go_enter Tryz.func227,Tryz.ntmps227
     go_wp2_with fail
     go_ret
     exact⟨rfl,(Calm.refl _).alloc _⟩
   ·have g3:(b == 3)=false:=by simpa using h3
    rw[if_neg h3]
    clear h1 h2 h3
    go_enter Tryz.func227,Tryz.ntmps227
    go_wp2_with fail
    go_ret
    exact⟨rfl,(Calm.refl _).alloc _⟩
structure CellsB (w:World) (B:Nat) (vs:List Value):Prop where
 lt:B < w.heap.size
 at_:∀(i:Nat) v,vs[i]?=some v→w.cell? ⟨B,i,none⟩=some v
 fz:∀o,w.frozen? ⟨B,o,none⟩=false
theorem CellsB.calm {w w':World} {B:Nat} {vs:List Value} (h:CellsB w B vs) (hc:Calm w w'):CellsB w' B vs:=
 ⟨Nat.lt_of_lt_of_le h.lt hc.size,fun i v hv=>(hc.cell (p:=⟨B,i,none⟩) h.lt).trans (h.at_ i v hv),fun o=>(World.frozen?_of_block (a:=⟨B,o,none⟩) (hc.block B h.lt)).trans (h.fz o)⟩
theorem CellsB.new (w:World) (vs:Array Value) (T:TypeId):CellsB (w.alloc (.cells vs T)) w.heap.size vs.toList:=by
 refine⟨by simp,fun i v hv=>?_,fun o=>by simp[go_sem]⟩
 rw[cell_of_row _ w.heap.size _ _ _ _ (heap_alloc_new w _)]
 simpa using hv
theorem CellsB.grown {w w':World} {B:Nat} {vs:List Value} {row:Option Nat} (h:CellsB w B vs) (hg:w.grownBy w' row) (hne:some B≠row):CellsB w' B vs:=
 ⟨Nat.lt_of_lt_of_le h.lt hg.size,fun i v hv=>(World.cell?_of_block (a:=⟨B,i,none⟩) (hg.block B h.lt hne)).trans (h.at_ i v hv),fun o=>(World.frozen?_of_block (a:=⟨B,o,none⟩) (hg.block B h.lt hne)).trans (h.fz o)⟩
theorem setCells_lt (b:Nat):∀(vs:List Value) (o:Nat) (w:World),(w.setCells b o vs).heap.size=w.heap.size
 |[],_,_=>rfl
 |v :: r,o,w=>(setCells_lt b r (o+1) _).trans (by simp[World.setCell])
theorem CellsB.other {w:World} {B b:Nat} {vs:List Value} (h:CellsB w B vs) (hb:b≠B) (us:List Value):CellsB (w.setCells b 0 us) B vs:=
 have hh:(w.setCells b 0 us).heap[B]?=w.heap[B]?:=World.heap_setCells_other w b 0 us h.lt (fun e=>hb e.symm)
 ⟨by rw[setCells_lt];exact h.lt,fun i v hv=>(World.cell?_of_block (a:=⟨B,i,none⟩) hh).trans (h.at_ i v hv),fun o=>(World.frozen?_of_block (a:=⟨B,o,none⟩) hh).trans (h.fz o)⟩
theorem CellsB.put {w:World} {B:Nat} {vs:List Value} (h:CellsB w B vs) (us:List Value) (hl:us.length=vs.length):CellsB (w.setCells B 0 us) B us:=by
 refine⟨by rw[setCells_lt];exact h.lt,fun i v hv=>?_,fun o=>(World.frozen?_setCells B us 0 w _).trans (h.fz o)⟩
 obtain⟨hi,rfl⟩:=List.getElem?_eq_some_iff.1 hv
 have:=World.cell?_setCells_in B us 0 w (fun j hj=>by
  have hj':j < vs.length:=by rw[←hl];exact hj
  rw[Nat.zero_add,h.at_ j _ (List.getElem?_eq_getElem hj')]
  rfl) i hi
 rwa [Nat.zero_add] at this
def heldR (v:Value):Option (DataW Value × List MemPlace):=some (.held v,[])
theorem keyS_law:Maps.Keyed Tryz.prog 9:=Maps.string_keyed Tryz.underlying9
theorem keyS_of (s:Str) (h:s.length≤1048576):keyOf Tryz.prog 9 (.string (bs s))=some (.string s):=by
 have:=WideMaps.keyOf_string_mk Tryz.underlying9 (s:=bs s) (by rw[bs_size];unfold maxLen;omega)
 rw[bs_toList] at this
 exact this
abbrev MapH (w:World) (B k:Nat) (D:DataW Value):Prop:=w.ownsMap Tryz.prog 9 heldR B k D
theorem MapH.calm {w w':World} {B k:Nat} {D:DataW Value} (h:MapH w B k D) (hc:Calm w w'):MapH w' B k D:=by
 obtain⟨es,clock,hb,r⟩:=h
 exact⟨es,clock,(hc.block B (Array.getElem?_eq_some_iff.1 hb).1).trans hb,r⟩
structure CheckAt (w:World) (B M1 M2 M3:Nat) (num:Int) (cl tx:Str) (EA:Option Addr) (n c k:Nat) (D:DataW Value):Prop where
 z:CellsB w B [.slice none 0 0,.slice none 0 0,.int .i64 num,.string (bs cl),.string (bs tx),.slice EA n c,.slice none 0 0,.map (some M1),.map (some M2),.map (some M3)]
 last:MapH w M1 0 (.map [])
 edits:MapH w M2 k D
 ne:M1≠M2∧B≠M2
theorem CheckAt.calm {w w':World} {B M1 M2 M3:Nat} {num:Int} {cl tx:Str} {EA:Option Addr} {n c k:Nat} {D:DataW Value} (h:CheckAt w B M1 M2 M3 num cl tx EA n c k D) (hc:Calm w w'):CheckAt w' B M1 M2 M3 num cl tx EA n c k D:=
 ⟨h.z.calm hc,h.last.calm hc,h.edits.calm hc,h.ne⟩
set_option maxRecDepth 100000 in
set_option maxHeartbeats 4000000 in
theorem newCheck_c (num:Int) (cl tx:Str) (EA:Option Addr) (n c:Nat) (w:World) :
  Calls Tryz.prog 103 #[.agg #[.slice none 0 0,.slice none 0 0],.agg #[.int .i64 num,.string (bs cl),.string (bs tx),.slice EA n c,.slice none 0 0]] w fun e w'=>(∃B M1 M2 M3,e=.returned (.pointer (some ⟨B,0,none⟩))∧w.heap.size≤B∧w.heap.size≤M2∧CheckAt w' B M1 M2 M3 num cl tx EA n c 0 (.map []))∧Calm w w':=by
 have hmm:=@run_makeMap Tryz.prog
 go_enter Tryz.func103,Tryz.ntmps103
 go_wp2_with fail
 obtain⟨w2,hw2⟩:∃w2,w2=(w.alloc (.cells #[.slice none 0 0,.slice none 0 0] 50)).alloc (.cells #[.int .i64 num,.string (bs cl),.string (bs tx),.slice EA n c,.slice none 0 0] 60):=⟨_,rfl⟩
 have hs2:w2.heap.size=w.heap.size+1+1:=by rw[hw2];simp
 have hc2:Calm w w2:=by rw[hw2];exact ((Calm.refl w).alloc _).alloc _
 obtain⟨w3,hw3⟩:∃w3,w3=w2.alloc (.map #[] 0):=⟨_,rfl⟩
 obtain⟨w4,hw4⟩:∃w4,w4=w3.alloc (.map #[] 0):=⟨_,rfl⟩
 obtain⟨w5,hw5⟩:∃w5,w5=w4.alloc (.map #[] 0):=⟨_,rfl⟩
 have hs3:w3.heap.size=w.heap.size+1+1+1:=by rw[hw3];simp[hs2]
 have hs4:w4.heap.size=w.heap.size+1+1+1+1:=by rw[hw4];simp[hs3]
 have hs5:w5.heap.size=w.heap.size+1+1+1+1+1:=by rw[hw5];simp[hs4]
 obtain⟨w6,hw6⟩:∃w6,w6=w5.alloc (.cells #[.slice none 0 0,.slice none 0 0,.int .i64 num,.string (bs cl),.string (bs tx),.slice EA n c,.slice none 0 0,.map (some (w.heap.size+1+1)),.map (some (w.heap.size+1+1+1)),.map (some (w.heap.size+1+1+1+1))] 232):=⟨_,rfl⟩
 have hc23:Calm w2 w3:=by rw[hw3];exact (Calm.refl _).alloc _
 have hc34:Calm w3 w4:=by rw[hw4];exact (Calm.refl _).alloc _
 have hc45:Calm w4 w5:=by rw[hw5];exact (Calm.refl _).alloc _
 have hc56:Calm w5 w6:=by rw[hw6];exact (Calm.refl _).alloc _
 have hck:CheckAt w6 (w.heap.size+1+1+1+1+1) (w.heap.size+1+1) (w.heap.size+1+1+1) (w.heap.size+1+1+1+1) num cl tx EA n c 0 (.map []):=by
  refine⟨?_,?_,?_,by omega,by omega⟩
  ·rw[←hs5,hw6]
   exact CellsB.new w5 _ _
  ·have:MapH w3 w2.heap.size 0 (.map []):=by
    rw[hw3]
    exact World.ownsMap_made w2 _ _ _
   rw[hs2] at this
   exact this.calm (hc34.trans (hc45.trans hc56))
  ·have:MapH w4 w3.heap.size 0 (.map []):=by
    rw[hw4]
    exact World.ownsMap_made w3 _ _ _
   rw[hs3] at this
   exact this.calm (hc45.trans hc56)
 have HCk:=Lib.hid (And.intro hck (hc2.trans (hc23.trans (hc34.trans (hc45.trans hc56)))))
 rw[←hw2,←hw3,←hw4,←hw5,←hw6]
 clear hw2 hw3 hw4 hw5 hw6 hs2 hs3 hs4 hs5 hc2 hc23 hc34 hc45 hc56 hck hmm
 go_loopw [20] (fun i wr=>i=.int .i64 0∧wr=w6) (fun _ _=>0)
 case atStart=>exact⟨rfl,rfl⟩
 case round=>
  obtain⟨rfl,rfl⟩:=hrel
  go_wp2_with fail
  go_ret
  exact⟨⟨_,_,_,_,rfl,by omega,by omega,HCk.out.1⟩,HCk.out.2⟩
def sizeE (n:Nat) (num:Int):Int:=if n=0∨64 < n then 110 else if num < 1∨1073741824 < num then 112 else 0
set_option maxRecDepth 100000 in
set_option maxHeartbeats 4000000 in
theorem hsize_c (B M1 M2 M3:Nat) (num:Int) (cl tx:Str) (EA:Option Addr) (n c k:Nat) (D:DataW Value) (w:World) (h:CheckAt w B M1 M2 M3 num cl tx EA n c k D) :
  Calls Tryz.prog 140 #[.pointer (some ⟨B,0,none⟩)] w fun e w'=>e=.returned (.int .i64 (sizeE n num))∧Calm w w':=by
 have k0:=h.z.at_ 0 _ rfl
 have k2:=h.z.at_ 2 _ rfl
 have k5:=h.z.at_ 5 _ rfl
 have k6:=h.z.at_ 6 _ rfl
 have lB:=h.z.lt
 obtain⟨R,hR⟩:∃R,sizeE n num=R:=⟨_,rfl⟩
 rw[hR]
 unfold sizeE at hR
 clear h
 by_cases hn0:n=0
 ·rw[if_pos (.inl hn0)] at hR
  subst hR hn0
  go_enter Tryz.func140,Tryz.ntmps140
  go_wp2_with fail
  go_region
  all_goals
   go_wp2_with fail
   go_ret
   exact⟨rfl,(by first | exact Calm.refl _ | exact Below.drew (Calm.refl _))⟩
 ·have hb0:((n:Int) == 0)=false:=by
   rw[beq_eq_false_iff_ne]
   omega
  by_cases h64:64 < n
  ·rw[if_pos (.inr h64)] at hR
   subst hR
   have h64':(64:Int) < (n:Int):=by omega
   clear hn0
   go_enter Tryz.func140,Tryz.ntmps140
   go_wp2_with fail
   go_region
   all_goals
    go_wp2_with fail
    go_ret
    exact⟨rfl,(by first | exact Calm.refl _ | exact Below.drew (Calm.refl _))⟩
  ·have h64':¬(64:Int) < (n:Int):=by omega
   rw[if_neg (by omega)] at hR
   by_cases h1:num < 1
   ·rw[if_pos (.inl h1)] at hR
    subst hR
    clear hn0
    go_enter Tryz.func140,Tryz.ntmps140
    go_wp2_with fail
    go_region
    all_goals
     go_wp2_with fail
     go_ret
     exact⟨rfl,(by first | exact Calm.refl _ | exact Below.drew (Calm.refl _))⟩
   ·by_cases h2:1073741824 < num
    ·rw[if_pos (.inr h2)] at hR
     subst hR
     clear hn0
     go_enter Tryz.func140,Tryz.ntmps140
     go_wp2_with fail
     go_region
     all_goals
      go_wp2_with fail
      go_ret
      exact⟨rfl,(by first | exact Calm.refl _ | exact Below.drew (Calm.refl _))⟩
    ·rw[if_neg (by omega)] at hR
     subst hR
     clear hn0
     go_enter Tryz.func140,Tryz.ntmps140
     go_wp2_with fail
     go_region
     all_goals
      go_wp2_with fail
      go_loopw [47] (fun i wr=>i=.int .i64 0∧Calm w wr) (fun _ _=>0)
      case atStart=>exact⟨rfl,(by first | exact Calm.refl _ | exact Below.drew (Calm.refl _))⟩
      case round=>
       obtain⟨rfl,hcr⟩:=hrel
       go_wp2_with fail
       go_ret
       exact⟨rfl,hcr⟩
def stepsV (B:Nat):List Value:=[.func (.func 140) #[.pointer (some ⟨B,0,none⟩)] #[],.func (.func 141) #[.pointer (some ⟨B,0,none⟩)] #[],.func (.func 142) #[.pointer (some ⟨B,0,none⟩)] #[],.func (.func 143) #[.pointer (some ⟨B,0,none⟩)] #[],.func (.func 144) #[.pointer (some ⟨B,0,none⟩)] #[]]
theorem hsteps_c (B:Nat) (w:World):Calls Tryz.prog 104 #[.pointer (some ⟨B,0,none⟩)] w fun e w'=>(∃A,e=.returned (.slice (some ⟨A,0,none⟩) 5 5)∧w.heap.size≤A∧CellsB w' A (stepsV B))∧Calm w w':=by
 go_enter Tryz.func104,Tryz.ntmps104
 go_wp2_with fail
 go_ret
 exact⟨⟨_,rfl,Nat.le_refl _,CellsB.new w _ _⟩,(Calm.refl _).alloc _⟩
set_option maxHeartbeats 4000000 in
theorem hrecords_c (B M1 M2 M3:Nat) (num:Int) (cl tx:Str) (EA:Option Addr) (n c k:Nat) (D:DataW Value) (w:World) (h:CheckAt w B M1 M2 M3 num cl tx EA n c k D) :
  Calls Tryz.prog 143 #[.pointer (some ⟨B,0,none⟩)] w fun e w'=>e=.returned (.int .i64 0)∧Calm w w':=by
 have hmm:=@run_makeMap Tryz.prog
 have k6:=h.z.at_ 6 _ rfl
 have lB:=h.z.lt
 have k6':(w.alloc (.map #[] 0)).cell? ⟨B,6,none⟩=some (.slice none 0 0):=Calm.at_ ((Calm.refl _).alloc _) k6 lB
 obtain⟨w1,hw1⟩:∃w1,w1=w.alloc (.map #[] 0):=⟨_,rfl⟩
 have hc1:Calm w w1:=by rw[hw1];exact (Calm.refl w).alloc _
 clear h
 go_enter Tryz.func143,Tryz.ntmps143
 go_wp2_with fail
 rw[←hw1] at k6' ⊢
 have lB1:=Nat.lt_of_lt_of_le lB hc1.size
 clear hw1 k6 lB hmm
 go_loopw [15] (fun i wr=>i=.int .i64 0∧wr=w1) (fun _ _=>0)
 case atStart=>exact⟨rfl,rfl⟩
 case round=>
  obtain⟨rfl,rfl⟩:=hrel
  go_wp2_with fail
  go_loopw [32] (fun i wr=>i=.int .i64 0∧Calm w wr) (fun _ _=>0)
  case atStart=>exact⟨rfl,hc1⟩
  case round=>
   obtain⟨rfl,hcr⟩:=hrel
   go_wp2_with fail
   go_ret
   exact⟨rfl,hcr⟩
set_option maxHeartbeats 4000000 in
theorem hroom_c (B M1 M2 M3:Nat) (num:Int) (cl tx:Str) (EA:Option Addr) (n c k:Nat) (D:DataW Value) (w:World) (h:CheckAt w B M1 M2 M3 num cl tx EA n c k D) (hn:n≤512) :
  Calls Tryz.prog 144 #[.pointer (some ⟨B,0,none⟩)] w fun e w'=>e=.returned (.int .i64 0)∧Calm w w':=by
 have k0:=h.z.at_ 0 _ rfl
 have k1:=h.z.at_ 1 _ rfl
 have k5:=h.z.at_ 5 _ rfl
 have k6:=h.z.at_ 6 _ rfl
 have lB:=h.z.lt
 have hwr:IntKind.i64.wrap (n:Int)=(n:Int):=by rw[IntKind.wrap_i64];omega
 have hd:decide ((512:Int) < (n:Int))=false:=decide_eq_false (by omega)
 have HSX:Hid (∀W,Calm w W→W.cell? ⟨B,0,none⟩=some (.slice none 0 0)∧W.cell? ⟨B,1,none⟩=some (.slice none 0 0)∧W.cell? ⟨B,5,none⟩=some (.slice EA n c)∧W.cell? ⟨B,6,none⟩=some (.slice none 0 0)):=fun W hW=>
  ⟨Calm.at_ hW k0 lB,Calm.at_ hW k1 lB,Calm.at_ hW k5 lB,Calm.at_ hW k6 lB⟩
 clear h
 go_enter Tryz.func144,Tryz.ntmps144
 go_wp2_with fail
 go_region_held3 (fun W=>W.cell? ⟨B,0,none⟩=some (.slice none 0 0)∧W.cell? ⟨B,1,none⟩=some (.slice none 0 0)∧W.cell? ⟨B,5,none⟩=some (.slice EA n c)∧W.cell? ⟨B,6,none⟩=some (.slice none 0 0))
  (first
   |with_reducible exact HSX.out _ (Calm.refl _)
   |with_reducible exact HSX.out _ (Below.drew (Calm.refl _))
   |go_keep)
  (fail)
 all_goals
  go_wp2_with fail
  go_ret
  exact⟨rfl,(by first | exact Calm.refl _ | exact Below.drew (Calm.refl _))⟩
end Go.Proofs.YtcofdlipapnohaaGreatDoor
