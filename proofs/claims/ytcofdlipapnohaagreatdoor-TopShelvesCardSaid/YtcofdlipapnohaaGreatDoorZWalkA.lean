/- Walks: bytes, components, the forms of parts. -/
import Derived.WalkKit
import Derived.Lib.Hide
import Derived.Deep.Draws
import Derived.WalkLawsBesides
import Derived.WalkSpells
import Derived.Test.YtcofdlipapnohaaGreatDoorZShelf
set_option linter.unusedSimpArgs false
set_option linter.unusedVariables false
namespace Go.Proofs.YtcofdlipapnohaaGreatDoor.Sy
abbrev Str:=List UInt8
def isByte (c:UInt8):Bool:=
 (decide (65≤c) && decide (c≤90)) || (decide (97≤c) && decide (c≤122)) || (decide (48≤c) && decide (c≤57)) || c == 95 || c == 46 || c == 43 || c == 45
def comp:Str→Bool
 |[]=>false
 |c :: s=>c != 46 && isByte c && s.all isByte
def isStar:Str→Bool
 |[]=>false
 |c :: _=>c == 42
def starOk:Str→Bool
 |[]=>false
 |c :: s=>c == 42 && s.all isByte
def partOk (s:Str):Bool:=comp s || starOk s
structure Pat where
 parts:List Str
 rest:Bool
deriving DecidableEq,Inhabited
def formI (l:Str):Int:=if comp l then 1 else if starOk l then 2 else 0
theorem form_cases (l:Str):(formI l=1∧comp l=true)∨(formI l=2∧comp l=false∧starOk l=true)∨(formI l=0∧comp l=false∧starOk l=false):=by
 unfold formI
 cases comp l <;> cases starOk l <;> simp
def good (i:Nat) (l:Str):Bool:=if i=0 then comp l else partOk l
def goodTo (ls:List Str) (k:Nat):Bool:=(List.range k).all fun j=>good j (ls.getD j [])
theorem goodTo_succ (ls:List Str) (k:Nat):goodTo ls (k+1)=(goodTo ls k && good k (ls.getD k [])):=by
 simp[goodTo,List.range_succ]
theorem goodTo_le {ls:List Str} {k m:Nat} (h:k≤m) (hm:goodTo ls m=true):goodTo ls k=true:=by
 simp only[goodTo,List.all_eq_true,List.mem_range] at hm ⊢
 exact fun j hj=>hm j (by omega)
def patErr (p:Pat):Int:=
 if p.parts.length=0∨(p.parts.length=1∧p.rest=false) then 30
 else if goodTo p.parts p.parts.length then (if 12 < p.parts.length then 31 else 0) else 30
def okPat (p:Pat):Bool:=patErr p == 0
theorem patErr_bad {p:Pat} {k:Nat} {l:Str} (hk:p.parts[k]?=some l) (hg:good k l=false):patErr p=30:=by
 have hlt:k < p.parts.length:=(List.getElem?_eq_some_iff.1 hk).1
 have hb:goodTo p.parts p.parts.length=false:=by
  rcases h:goodTo p.parts p.parts.length with _ | _
  ·rfl
  ·have h1:=goodTo_le (show k+1≤p.parts.length by omega) h
   rw[goodTo_succ] at h1
   have:p.parts.getD k []=l:=by simp[List.getD_eq_getElem?_getD,hk]
   rw[this,hg] at h1
   simp at h1
 unfold patErr
 rw[hb]
 simp
theorem patErr_good {p:Pat} (h0:p.parts.length≠0) (h1:¬(p.parts.length=1∧p.rest=false)) (hg:goodTo p.parts p.parts.length=true):patErr p=if 12 < p.parts.length then 31 else 0:=by
 unfold patErr
 rw[if_neg (fun h=>h.elim h0 h1),hg]
 simp
def regErr (b:Pat) (hs:List Pat):Int:=
 if patErr b≠0 then 50 else if hs.any (fun h=>patErr h != 0) then 51 else if 64 < hs.length then 52 else 0
theorem regErr_base {b:Pat} {hs:List Pat} (h:patErr b≠0):regErr b hs=50:=by rw[regErr,if_pos h]
theorem regErr_hole {b:Pat} {hs:List Pat} (hb:patErr b=0) {k:Nat} {h:Pat} (hk:hs[k]?=some h) (hh:patErr h≠0):regErr b hs=51:=by
 have:hs.any (fun h=>patErr h != 0)=true:=List.any_eq_true.2 ⟨h,List.mem_of_getElem? hk,by simpa using hh⟩
 rw[regErr,if_neg (by simpa using hb),if_pos this]
theorem regErr_end {b:Pat} {hs:List Pat} (hb:patErr b=0) (hall:∀j h,j < hs.length→hs[j]?=some h→patErr h=0):regErr b hs=if 64 < hs.length then 52 else 0:=by
 have:hs.any (fun h=>patErr h != 0)=false:=by
  rw[List.any_eq_false]
  intro h hm
  obtain⟨j,hj,e⟩:=List.mem_iff_getElem.1 hm
  simp[hall j h hj (by rw[List.getElem?_eq_getElem hj,e])]
 rw[regErr,if_neg (by simpa using hb),this]
 simp
def endsWith (s t:Str):Bool:=t.isSuffixOf s
def mtch (part c:Str):Bool:=if isStar part then endsWith c part.tail && decide (part.tail.length < c.length) else part == c
def inside (x y:Str):Bool:=x == y || (isStar y && (if isStar x then endsWith x.tail y.tail else mtch y x))
def pAt (p:Pat) (i:Nat):Str:=p.parts.getD i [42]
def reaches (p:Pat) (n:Nat):Bool:=if p.rest then decide (p.parts.length < n) else n == p.parts.length
def covers (h b:Pat) (i n:Nat):Bool:=(List.range (min n h.parts.length)).all fun j=>decide (j < i) || inside (pAt b j) (pAt h j)
def full (b:Pat) (hs:List Pat) (n:Nat):Bool:=hs.any fun h=>reaches h n && covers h b 0 n
def firstLen (b:Pat):Nat:=if b.rest then b.parts.length+1 else b.parts.length
def lastLen (b:Pat) (hs:List Pat):Nat:=if b.rest then hs.foldl (fun m h=>max m (h.parts.length+1)) (b.parts.length+1) else b.parts.length
def seek (b:Pat) (hs:List Pat):Nat→Nat→Nat
 |_,0=>0
 |n,k+1=>if full b hs n then seek b hs (n+1) k else n
def leastLen (b:Pat) (hs:List Pat):Nat:=seek b hs (firstLen b) (lastLen b hs+1 - firstLen b)
theorem covers_true {h b:Pat} {i n:Nat}:covers h b i n=true↔∀j,i≤j→j < n→j < h.parts.length→inside (pAt b j) (pAt h j)=true:=by
 simp only[covers,List.all_eq_true,List.mem_range,Bool.or_eq_true,decide_eq_true_eq]
 constructor
 ·intro H j h1 h2 h3
  rcases H j (by omega) with h4 | h4
  ·omega
  ·exact h4
 ·intro H j hj
  by_cases h4:j < i
  ·exact .inl h4
  ·exact .inr (H j (by omega) (by omega) (by omega))
theorem pAt_out {p:Pat} {i:Nat} (h:p.parts.length≤i):pAt p i=[42]:=by
 simp[pAt,List.getD_eq_getElem?_getD,List.getElem?_eq_none h]
theorem endsWith_iff {s t:Str}:endsWith s t=true↔t <:+ s:=by simp[endsWith]
theorem pigeon {α:Type} [DecidableEq α]:∀(l m:List α),l.Nodup→(∀x∈l,x∈m)→l.length≤m.length
 |[],_,_,_=>Nat.zero_le _
 |x :: l,m,hn,hs=>by
  have hx:=hs x (by simp)
  have hn':=List.nodup_cons.1 hn
  have h1:=pigeon l (m.erase x) hn'.2 (fun y hy=>(List.mem_erase_of_ne (by rintro rfl;exact hn'.1 hy)).2 (hs y (by simp[hy])))
  rw[List.length_erase_of_mem hx] at h1
  have h2:=List.length_pos_of_mem hx
  simp only[List.length_cons]
  omega
end Go.Proofs.YtcofdlipapnohaaGreatDoor.Sy
namespace Go.Proofs.YtcofdlipapnohaaGreatDoor
open Go.RowKit Sy
def bs (l:List UInt8):ByteArray:=⟨l.toArray⟩
theorem bs_toList (l:List UInt8):(bs l).data.toList=l:=by simp[bs]
theorem bs_size (l:List UInt8):(bs l).size=l.length:=by simp[bs,ByteArray.size]
theorem bs_toL (l:List UInt8):(bs l).toList=l:=by rw[ByteArray.toList_eq];exact bs_toList l
theorem bs_get (l:List UInt8) (k:Nat) (h:k < (bs l).size):(bs l)[k]'h=l[k]'(by rw[bs_size] at h;exact h):=by
 show (bs l).data[k]'h=_
 simp[bs]
attribute [go_sem] bs_toL bs_size bs_toList bs_get
theorem bs_eta (s:ByteArray):bs s.data.toList=s:=by cases s;simp[bs]
theorem ret_bool {a b:Bool} (h:a=b):Ending.returned (.bool a)=.returned (.bool b):=by rw[h]
theorem ret_int {k:IntKind} {a b:Int} (h:a=b):Ending.returned (.int k a)=.returned (.int k b):=by rw[h]
theorem ret_str {a b:ByteArray} (h:a=b):Ending.returned (.string a)=.returned (.string b):=by rw[h]
abbrev Calm (w w':World):Prop:=Below w.heap.size w w'
theorem Calm.refl (w:World):Calm w w:=Below.refl _ _
theorem Calm.trans {a b c:World} (h:Calm a b) (k:Calm b c):Calm a c:=Below.trans h (Below.mono k h.size)
theorem Calm.drewN {a b:World} (h:Calm a b) (n:Nat):Calm a (b.drewN n):=⟨h.os,h.tape,h.output,h.size,h.block⟩
theorem Calm.alloc {a b:World} (h:Calm a b) (o:Obj):Calm a (b.alloc o):=Below.alloc h h.size o
structure StrsR (w:World) (A:Option Addr) (ls:List Str):Prop where
 len:ls.length≤16384
 each:∀l∈ls,l.length≤16384
 at_:0 < ls.length→∃b o,A=some ⟨b,o,none⟩∧b < w.heap.size∧∀k l,ls[k]?=some l→w.cell? ⟨b,o+k,none⟩=some (.string (bs l))
theorem StrsR.calm {w w':World} {A:Option Addr} {ls:List Str} (h:StrsR w A ls) (hc:Calm w w'):StrsR w' A ls:=
 ⟨h.len,h.each,fun h0=>by
  obtain⟨b,o,rfl,hb,hk⟩:=h.at_ h0
  exact⟨b,o,rfl,Nat.lt_of_lt_of_le hb hc.size,fun k l hl=>(hc.cell (p:=⟨b,o+k,none⟩) hb).trans (hk k l hl)⟩⟩
structure PatsR (w:World) (A:Option Addr) (ps:List Pat):Prop where
 len:ps.length≤16384
 at_:0 < ps.length→∃b o,A=some ⟨b,o,none⟩∧b < w.heap.size∧∀k p,ps[k]?=some p→∃Ak ck,w.cell? ⟨b,o+k * 2,none⟩=some (.slice Ak p.parts.length ck)∧w.cell? ⟨b,o+k * 2+1,none⟩=some (.bool p.rest)∧p.parts.length≤ck∧ck≤9223372036854775807∧StrsR w Ak p.parts
theorem PatsR.calm {w w':World} {A:Option Addr} {ps:List Pat} (h:PatsR w A ps) (hc:Calm w w'):PatsR w' A ps:=
 ⟨h.len,fun h0=>by
  obtain⟨b,o,rfl,hb,hk⟩:=h.at_ h0
  refine⟨b,o,rfl,Nat.lt_of_lt_of_le hb hc.size,fun k p hp=>?_⟩
  obtain⟨Ak,ck,h1,h2,h3,h5,h4⟩:=hk k p hp
  exact⟨Ak,ck,(hc.cell (p:=⟨b,o+k * 2,none⟩) hb).trans h1,(hc.cell (p:=⟨b,o+k * 2+1,none⟩) hb).trans h2,h3,h5,h4.calm hc⟩⟩
structure StrsG (w:World) (A:Option Addr) (ls:List Str):Prop where
 len:ls.length≤140737488355328
 each:∀l∈ls,l.length≤140737488355328
 at_:0 < ls.length→∃b o,A=some ⟨b,o,none⟩∧b < w.heap.size∧∀k l,ls[k]?=some l→w.cell? ⟨b,o+k,none⟩=some (.string (bs l))
theorem StrsG.calm {w w':World} {A:Option Addr} {ls:List Str} (h:StrsG w A ls) (hc:Calm w w'):StrsG w' A ls:=
 ⟨h.len,h.each,fun h0=>by
  obtain⟨b,o,rfl,hb,hk⟩:=h.at_ h0
  exact⟨b,o,rfl,Nat.lt_of_lt_of_le hb hc.size,fun k l hl=>(hc.cell (p:=⟨b,o+k,none⟩) hb).trans (hk k l hl)⟩⟩
theorem StrsG.get {w:World} {A:Option Addr} {ls:List Str} (h:StrsG w A ls) {k:Nat} (hk:k < ls.length):∃b o l,A=some ⟨b,o,none⟩∧b < w.heap.size∧ls[k]?=some l∧l.length≤140737488355328∧w.cell? ⟨b,o+k,none⟩=some (.string (bs l)):=by
 obtain⟨b,o,hA,hb,hc⟩:=h.at_ (by omega)
 exact⟨b,o,ls[k],hA,hb,List.getElem?_eq_getElem hk,h.each _ (List.getElem_mem hk),hc k _ (List.getElem?_eq_getElem hk)⟩
theorem StrsG.toR {w:World} {A:Option Addr} {ls:List Str} (h:StrsG w A ls) (h1:ls.length≤16384) (h2:∀l∈ls,l.length≤16384):StrsR w A ls:=⟨h1,h2,h.at_⟩
structure StrsU (w:World) (A:Option Addr) (ls:List Str):Prop where
 len:ls.length≤1048576
 each:∀l∈ls,l.length≤1048576
 at_:0 < ls.length→∃b o,A=some ⟨b,o,none⟩∧b < w.heap.size∧∀k l,ls[k]?=some l→w.cell? ⟨b,o+k,none⟩=some (.string (bs l))
theorem StrsU.toG {w:World} {A:Option Addr} {ls:List Str} (h:StrsU w A ls):StrsG w A ls:=⟨by have:=h.len;omega,fun l hl=>by have:=h.each l hl;omega,h.at_⟩
theorem StrsU.calm {w w':World} {A:Option Addr} {ls:List Str} (h:StrsU w A ls) (hc:Calm w w'):StrsU w' A ls:=⟨h.len,h.each,(h.toG.calm hc).at_⟩
theorem StrsU.toR {w:World} {A:Option Addr} {ls:List Str} (h:StrsU w A ls) (h1:ls.length≤16384) (h2:∀l∈ls,l.length≤16384):StrsR w A ls:=⟨h1,h2,h.at_⟩
theorem StrsU.get {w:World} {A:Option Addr} {ls:List Str} (h:StrsU w A ls) {k:Nat} (hk:k < ls.length):∃b o l,A=some ⟨b,o,none⟩∧b < w.heap.size∧ls[k]?=some l∧l.length≤1048576∧w.cell? ⟨b,o+k,none⟩=some (.string (bs l)):=by
 obtain⟨b,o,hA,hb,hc⟩:=h.at_ (by omega)
 exact⟨b,o,ls[k],hA,hb,List.getElem?_eq_getElem hk,h.each _ (List.getElem_mem hk),hc k _ (List.getElem?_eq_getElem hk)⟩
theorem StrsR.toU {w:World} {A:Option Addr} {ls:List Str} (h:StrsR w A ls):StrsU w A ls:=⟨by have:=h.len;omega,fun l hl=>by have:=h.each l hl;omega,h.at_⟩
theorem StrsR.toG {w:World} {A:Option Addr} {ls:List Str} (h:StrsR w A ls):StrsG w A ls:=h.toU.toG
end Go.Proofs.YtcofdlipapnohaaGreatDoor
namespace Go.Proofs.YtcofdlipapnohaaGreatDoor
open Go Go.RowKit Sy
theorem isByte_iff (c:UInt8):isByte c=true↔(65≤(c.toNat:Int)∧(c.toNat:Int)≤90)∨(97≤(c.toNat:Int)∧(c.toNat:Int)≤122)∨(48≤(c.toNat:Int)∧(c.toNat:Int)≤57)∨(c.toNat:Int)=95∨(c.toNat:Int)=46∨(c.toNat:Int)=43∨(c.toNat:Int)=45:=by
 have e:∀k:UInt8,(c=k)↔(c.toNat:Int)=k.toNat:=fun k=>by rw[←UInt8.toNat_inj];omega
 simp only[isByte,Bool.or_eq_true,Bool.and_eq_true,decide_eq_true_eq,beq_iff_eq,UInt8.le_iff_toNat_le,e]
 simp only[UInt8.reduceToNat]
 omega
set_option maxHeartbeats 400000 in
theorem isByte_c (c:UInt8) (w:World):Calls Tryz.prog 174 #[.int .u8 (c.toNat:Int)] w fun e w'=>e=.returned (.bool (isByte c))∧w=w':=by
 go_enter Tryz.func174,Tryz.ntmps174
 go_wp2
 all_goals
  go_ret
  refine⟨ret_bool ?_,rfl⟩
  rw[Bool.eq_iff_iff,isByte_iff]
  simp
  omega
theorem isByte_v (c:UInt8) (b:Bool) (w:World) (h:isByte c=b):Calls Tryz.prog 174 #[.int .u8 (c.toNat:Int)] w fun e w'=>e=.returned (.bool b)∧w=w':=h ▸ isByte_c c w
theorem comp_all (c:UInt8) (t:List UInt8) (h:c≠46):comp (c :: t)=(c :: t).all isByte:=by
 have h':(c != 46)=true:=bne_iff_ne.2 h
 simp only[comp,h',Bool.true_and,List.all_cons]
theorem all_step {l:List UInt8} {k:Nat} {b:UInt8} (hk:k < l.length) (hb:l[k]=b) (h:(l.take k).all isByte=true) (hs:isByte b=true):(l.take (k+1)).all isByte=true:=by
 rw[List.take_succ_eq_append_getElem hk,hb]
 simp only[List.all_append,List.all_cons,List.all_nil,Bool.and_true,Bool.and_eq_true]
 exact⟨h,hs⟩
theorem all_stop {l:List UInt8} {k:Nat} {b:UInt8} (hk:k < l.length) (hb:l[k]=b) (hs:isByte b=false):l.all isByte=false:=by
 rw[List.all_eq_false]
 exact⟨b,by rw[←hb];exact List.getElem_mem hk,by simp[hs]⟩
set_option maxHeartbeats 400000 in
theorem comp_c (l:List UInt8) (w:World) (hl:l.length≤140737488355328):Calls Tryz.prog 132 #[.string (bs l)] w fun e w'=>e=.returned (.bool (comp l))∧w=w':=by
 cases l with
 |nil=>
  go_enter Tryz.func132,Tryz.ntmps132
  go_wp2
  go_ret
  exact⟨rfl,rfl⟩
 |cons c t=>
  simp only[List.length_cons] at hl
  by_cases h46:c=46
  ·subst h46
   go_enter Tryz.func132,Tryz.ntmps132
   go_wp2
   go_ret
   exact⟨rfl,rfl⟩
  ·have hc:((c.toNat:Int) == 46)=false:=by
    rw[beq_eq_false_iff_ne]
    intro e
    exact h46 (UInt8.toNat_inj.1 (by simp;omega))
   have H46:Hid (c≠46):=h46
   clear h46
   go_enter Tryz.func132,Tryz.ntmps132
   go_wp2_with fail
   go_loop [13] (fun i=>∃k:Nat,k≤t.length+1∧i=.int .i64 k∧Hid (((c :: t).take k).all isByte=true)) (fun i=>t.length+1 - (intOf i).toNat)
   case atStart=>exact⟨0,Nat.zero_le _,rfl,rfl⟩
   case round=>
    obtain⟨k,hk,rfl,hh⟩:=hrel
    by_cases hlt:k < t.length+1
    ·obtain⟨b,hb⟩:∃b,(c :: t)[k]'(by simpa using hlt)=b:=⟨_,rfl⟩
     cases hib:isByte b with
     |true=>
      go_wp2_with (go_at_call 174;refine (isByte_v _ _ _ hib).mono ?_;rintro e w' ⟨rfl,rfl⟩)
      go_round
      case rel=>exact⟨k+1,by omega,by go_num,all_step (by simpa using hlt) hb hh.out hib⟩
      case measure=>simp[intOf];omega
     |false=>
      go_wp2_with (go_at_call 174;refine (isByte_v _ _ _ hib).mono ?_;rintro e w' ⟨rfl,rfl⟩)
      go_ret
      exact⟨ret_bool (by rw[comp_all c t H46.out,all_stop (by simpa using hlt) hb hib]),rfl⟩
    ·go_wp2
     go_ret
     have hk2:k=t.length+1:=by omega
     exact⟨ret_bool (by rw[comp_all c t H46.out];have:=hh.out;rw[hk2,List.take_of_length_le (by simp)] at this;exact this.symm),rfl⟩
theorem comp_v (l:List UInt8) (b:Bool) (w:World) (hl:l.length≤140737488355328) (h:comp l=b):Calls Tryz.prog 132 #[.string (bs l)] w fun e w'=>e=.returned (.bool b)∧w=w':=h ▸ comp_c l w hl
theorem hasPrefix42 (l:List UInt8):Lib.hasPrefix l [42]=isStar l:=by
 cases l with
 |nil=>rfl
 |cons c t=>
  show ((42 == c) && ([]:List UInt8).isPrefixOf t)=(c == 42)
  rw[List.isPrefixOf_nil_left,Bool.and_true,Bool.eq_iff_iff,beq_iff_eq,beq_iff_eq]
  exact⟨Eq.symm,Eq.symm⟩
theorem hasStar_c (l:List UInt8) (w:World):Calls Tryz.prog 161 #[.string (bs l),.string ⟨#[42]⟩] w fun e w'=>e=.returned (.bool (isStar l))∧w=w':=
 (Tryz.strings_HasPrefix (bs l) ⟨#[42]⟩ w).mono fun _ _ ⟨he,hw⟩=>⟨by rw[he,bs_toList,←hasPrefix42],hw.symm⟩
theorem hasStar_v (l:List UInt8) (b:Bool) (w:World) (h:isStar l=b):Calls Tryz.prog 161 #[.string (bs l),.string ⟨#[42]⟩] w fun e w'=>e=.returned (.bool b)∧w=w':=h ▸ hasStar_c l w
theorem isStar_c (l:List UInt8) (w:World):Calls Tryz.prog 220 #[.string (bs l)] w fun e w'=>e=.returned (.bool (isStar l))∧w=w':=by
 go_enter Tryz.func220,Tryz.ntmps220
 go_wp2_with (go_at_call 161;refine (hasStar_c _ _).mono ?_;rintro e w' ⟨rfl,rfl⟩)
 go_ret
 exact⟨rfl,rfl⟩
theorem starOk_cons (c:UInt8) (t:List UInt8):starOk (c :: t)=(c == 42 && t.all isByte):=rfl
theorem starOk_star {l:List UInt8} (h:starOk l=true):isStar l=true:=by
 cases l with
 |nil=>exact h
 |cons c t=>rw[starOk_cons,Bool.and_eq_true] at h;exact h.1
theorem tail_step {c:UInt8} {t:List UInt8} {k:Nat} {b:UInt8} (hk:k+1 < (c :: t).length) (hb:(c :: t)[k+1]=b) (h:(t.take k).all isByte=true) (hs:isByte b=true):(t.take (k+1)).all isByte=true:=
 all_step (l:=t) (k:=k) (b:=b) (by simpa using hk) (by simpa using hb) h hs
theorem tail_stop {c:UInt8} {t:List UInt8} {k:Nat} {b:UInt8} (hk:k+1 < (c :: t).length) (hb:(c :: t)[k+1]=b) (hs:isByte b=false):t.all isByte=false:=
 all_stop (l:=t) (k:=k) (b:=b) (by simpa using hk) (by simpa using hb) hs
set_option maxHeartbeats 400000 in
theorem form_c (l:List UInt8) (w:World) (hl:l.length≤140737488355328):Calls Tryz.prog 232 #[.string (bs l)] w fun e w'=>e=.returned (.int .i64 (formI l))∧w=w':=by
 have hcl:=comp_c l w hl
 rcases hco:comp l with _ | _
 ·rcases hst:isStar l with _ | _
  ·have hv:formI l=0:=by
    have:starOk l=false:=by
     rcases h:starOk l with _ | _
     ·rfl
     ·rw[starOk_star h] at hst;cases hst
    simp[formI,hco,this]
   rw[hv]
   clear hv
   go_enter Tryz.func232,Tryz.ntmps232
   go_wp2_with (first | (go_at_call 132;refine (comp_v _ _ _ hl hco).mono ?_;rintro e w' ⟨rfl,rfl⟩) | (go_at_call 161;refine (hasStar_v _ _ _ hst).mono ?_;rintro e w' ⟨rfl,rfl⟩))
   go_ret
   exact⟨rfl,rfl⟩
  ·cases l with
   |nil=>cases hst
   |cons c t=>
    have hc42:Hid (formI (c :: t)=if t.all isByte then 2 else 0):=by
     have e:(c == 42)=true:=hst
     show formI (c :: t)=_
     simp only[formI,hco,starOk_cons,e,Bool.true_and,Bool.false_eq_true,if_false]
    simp only[List.length_cons] at hl
    go_enter Tryz.func232,Tryz.ntmps232
    go_wp2_with (first | (go_at_call 132;refine (comp_v _ _ _ (by simp only[List.length_cons];omega) hco).mono ?_;rintro e w' ⟨rfl,rfl⟩) | (go_at_call 161;refine (hasStar_v _ _ _ hst).mono ?_;rintro e w' ⟨rfl,rfl⟩))
    go_loop [3] (fun i=>∃k:Nat,k≤t.length∧i=.int .i64 ((k:Int)+1)∧Hid ((t.take k).all isByte=true)) (fun i=>t.length+2 - (intOf i).toNat)
    case atStart=>exact⟨0,Nat.zero_le _,rfl,rfl⟩
    case round=>
     obtain⟨k,hk,rfl,hh⟩:=hrel
     by_cases hlt:k < t.length
     ·obtain⟨b,hb⟩:∃b,(c :: t)[k+1]'(by simpa using hlt)=b:=⟨_,rfl⟩
      cases hib:isByte b with
      |true=>
       go_wp2_with (go_at_call 174;refine (isByte_v _ _ _ hib).mono ?_;rintro e w' ⟨rfl,rfl⟩)
       go_round
       case rel=>exact⟨k+1,by omega,by go_num,tail_step (by simpa using hlt) hb hh.out hib⟩
       case measure=>simp[intOf];omega
      |false=>
       go_wp2_with (go_at_call 174;refine (isByte_v _ _ _ hib).mono ?_;rintro e w' ⟨rfl,rfl⟩)
       go_ret
       exact⟨ret_int (by rw[hc42.out,tail_stop (by simpa using hlt) hb hib];rfl),rfl⟩
     ·go_wp2
      go_ret
      have hk2:k=t.length:=by omega
      exact⟨ret_int (by rw[hc42.out];have:=hh.out;rw[hk2,List.take_of_length_le (by simp)] at this;rw[this];rfl),rfl⟩
 ·have hv:formI l=1:=by simp[formI,hco]
  rw[hv]
  clear hv
  go_enter Tryz.func232,Tryz.ntmps232
  go_wp2_with (go_at_call 132;refine (comp_v _ _ _ hl hco).mono ?_;rintro e w' ⟨rfl,rfl⟩)
  go_ret
  exact⟨rfl,rfl⟩
theorem form_v (l:List UInt8) (v:Int) (w:World) (hl:l.length≤140737488355328) (h:formI l=v):Calls Tryz.prog 232 #[.string (bs l)] w fun e w'=>e=.returned (.int .i64 v)∧w=w':=h ▸ form_c l w hl
end Go.Proofs.YtcofdlipapnohaaGreatDoor
