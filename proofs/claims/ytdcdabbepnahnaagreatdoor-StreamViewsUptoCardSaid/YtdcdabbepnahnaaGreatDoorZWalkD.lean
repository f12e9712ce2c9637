/- Walks: the reference's Check of a pattern. -/
import Derived.WalkLawsBesides
import Derived.WalkSpells
import Derived.Test.YtdcdabbepnahnaaGreatDoorZCopyP
import Derived.Test.YtdcdabbepnahnaaGreatDoorZShelf
set_option linter.unusedVariables false
set_option linter.unusedSimpArgs false
namespace Go.Proofs.YtdcdabbepnahnaaGreatDoor
open Go Go.RowKit Sy
theorem isByte_iff (c:UInt8):isByte c=true↔(65≤(c.toNat:Int)∧(c.toNat:Int)≤90)∨(97≤(c.toNat:Int)∧(c.toNat:Int)≤122)∨(48≤(c.toNat:Int)∧(c.toNat:Int)≤57)∨(c.toNat:Int)=95∨(c.toNat:Int)=46∨(c.toNat:Int)=43∨(c.toNat:Int)=45:=by
 have e:∀k:UInt8,(c=k)↔(c.toNat:Int)=k.toNat:=fun k=>by rw[←UInt8.toNat_inj];omega
 simp only[isByte,Bool.or_eq_true,Bool.and_eq_true,decide_eq_true_eq,beq_iff_eq,UInt8.le_iff_toNat_le,e]
 simp only[UInt8.reduceToNat]
 omega
set_option maxHeartbeats 400000 in
theorem isByte_c (c:UInt8) (w:World):Calls Tryz.prog 149 #[.int .u8 (c.toNat:Int)] w fun e w'=>e=.returned (.bool (isByte c))∧w=w':=by
 go_enter Tryz.func149,Tryz.ntmps149
 go_wp2
 all_goals
  go_ret
  refine⟨ret_bool ?_,rfl⟩
  rw[Bool.eq_iff_iff,isByte_iff]
  simp
  omega
theorem isByte_v (c:UInt8) (b:Bool) (w:World) (h:isByte c=b):Calls Tryz.prog 149 #[.int .u8 (c.toNat:Int)] w fun e w'=>e=.returned (.bool b)∧w=w':=h ▸ isByte_c c w
theorem comp_all (c:UInt8) (t:List UInt8) (h:c≠46):comp (c :: t)=(c :: t).all isByte:=by
 have h':(c != 46)=true:=bne_iff_ne.2 h
 simp only[comp,h',Bool.true_and,List.all_cons]
theorem all_step {l:List UInt8} {k:Nat} {b:UInt8} (hk:k < l.length) (hb:l[k]=b) (h:(l.take k).all isByte=true) (hs:isByte b=true):(l.take (k+1)).all isByte=true:=by
 rw[List.take_succ_eq_append_getElem hk,hb]
 simp only[List.all_append,List.all_cons,List.all_nil,Bool.and_true,Bool.and_eq_true]
 exact⟨h,hs⟩
theorem all_stop {l:List UInt8} {k:Nat} {b:UInt8} (hk:k < l.length) (hb:l[k]=b) (hs:isByte b=false):l.all isByte=false:=by
 rw[List.all_eq_false]
 exact⟨b,by rw[←hb];exact List.getElem_mem hk,by simp[hs]⟩
set_option maxHeartbeats 400000 in
theorem comp_c (l:List UInt8) (w:World) (hl:l.length≤140737488355328):Calls Tryz.prog 107 #[.string (bs l)] w fun e w'=>e=.returned (.bool (comp l))∧w=w':=by
 cases l with
 |nil=>
  go_enter Tryz.func107,Tryz.ntmps107
  go_wp2
  go_ret
  exact⟨rfl,rfl⟩
 |cons c t=>
  simp only[List.length_cons] at hl
  by_cases h46:c=46
  ·subst h46
   go_enter Tryz.func107,Tryz.ntmps107
   go_wp2
   go_ret
   exact⟨rfl,rfl⟩
  ·have hc:((c.toNat:Int) == 46)=false:=by
    rw[beq_eq_false_iff_ne]
    intro e
    exact h46 (UInt8.toNat_inj.1 (by simp;omega))
   have H46:Hid (c≠46):=h46
   clear h46
   go_enter Tryz.func107,Tryz.ntmps107
   go_wp2_with fail
   go_loop [13] (fun i=>∃k:Nat,k≤t.length+1∧i=.int .i64 k∧Hid (((c :: t).take k).all isByte=true)) (fun i=>t.length+1 - (intOf i).toNat)
   case atStart=>exact⟨0,Nat.zero_le _,rfl,rfl⟩
   case round=>
    obtain⟨k,hk,rfl,hh⟩:=hrel
    by_cases hlt:k < t.length+1
    ·obtain⟨b,hb⟩:∃b,(c :: t)[k]'(by simpa using hlt)=b:=⟨_,rfl⟩
     cases hib:isByte b with
     |true=>
      go_wp2_with (go_at_call 149;refine (isByte_v _ _ _ hib).mono ?_;rintro e w' ⟨rfl,rfl⟩)
      go_round
      case rel=>exact⟨k+1,by omega,by go_num,all_step (by simpa using hlt) hb hh.out hib⟩
      case measure=>simp[intOf];omega
     |false=>
      go_wp2_with (go_at_call 149;refine (isByte_v _ _ _ hib).mono ?_;rintro e w' ⟨rfl,rfl⟩)
      go_ret
      exact⟨ret_bool (by rw[comp_all c t H46.out,all_stop (by simpa using hlt) hb hib]),rfl⟩
    ·go_wp2
     go_ret
     have hk2:k=t.length+1:=by omega
     exact⟨ret_bool (by rw[comp_all c t H46.out];have:=hh.out;rw[hk2,List.take_of_length_le (by simp)] at this;exact this.symm),rfl⟩
theorem comp_v (l:List UInt8) (b:Bool) (w:World) (hl:l.length≤140737488355328) (h:comp l=b):Calls Tryz.prog 107 #[.string (bs l)] w fun e w'=>e=.returned (.bool b)∧w=w':=h ▸ comp_c l w hl
theorem hasPrefix42 (l:List UInt8):Lib.hasPrefix l [42]=isStar l:=by
 cases l with
 |nil=>rfl
 |cons c t=>
  show ((42 == c) && ([]:List UInt8).isPrefixOf t)=(c == 42)
  rw[List.isPrefixOf_nil_left,Bool.and_true,Bool.eq_iff_iff,beq_iff_eq,beq_iff_eq]
  exact⟨Eq.symm,Eq.symm⟩
theorem hasStar_c (l:List UInt8) (w:World):Calls Tryz.prog 19 #[.string (bs l),.string ⟨#[42]⟩] w fun e w'=>e=.returned (.bool (isStar l))∧w=w':=
 (Tryz.strings_HasPrefix (bs l) ⟨#[42]⟩ w).mono fun _ _ ⟨he,hw⟩=>⟨by rw[he,bs_toList,←hasPrefix42],hw.symm⟩
theorem hasStar_v (l:List UInt8) (b:Bool) (w:World) (h:isStar l=b):Calls Tryz.prog 19 #[.string (bs l),.string ⟨#[42]⟩] w fun e w'=>e=.returned (.bool b)∧w=w':=h ▸ hasStar_c l w
theorem isStar_c (l:List UInt8) (w:World):Calls Tryz.prog 119 #[.string (bs l)] w fun e w'=>e=.returned (.bool (isStar l))∧w=w':=by
 go_enter Tryz.func119,Tryz.ntmps119
 go_wp2_with (go_at_call 19;refine (hasStar_c _ _).mono ?_;rintro e w' ⟨rfl,rfl⟩)
 go_ret
 exact⟨rfl,rfl⟩
theorem starOk_cons (c:UInt8) (t:List UInt8):starOk (c :: t)=(c == 42 && t.all isByte):=rfl
theorem starOk_star {l:List UInt8} (h:starOk l=true):isStar l=true:=by
 cases l with
 |nil=>exact h
 |cons c t=>rw[starOk_cons,Bool.and_eq_true] at h;exact h.1
theorem tail_step {c:UInt8} {t:List UInt8} {k:Nat} {b:UInt8} (hk:k+1 < (c :: t).length) (hb:(c :: t)[k+1]=b) (h:(t.take k).all isByte=true) (hs:isByte b=true):(t.take (k+1)).all isByte=true:=
 all_step (l:=t) (k:=k) (b:=b) (by simpa using hk) (by simpa using hb) h hs
theorem tail_stop {c:UInt8} {t:List UInt8} {k:Nat} {b:UInt8} (hk:k+1 < (c :: t).length) (hb:(c :: t)[k+1]=b) (hs:isByte b=false):t.all isByte=false:=
 all_stop (l:=t) (k:=k) (b:=b) (by simpa using hk) (by simpa using hb) hs
set_option maxHeartbeats 400000 in
theorem form_c (l:List UInt8) (w:World) (hl:l.length≤140737488355328):Calls Tryz.prog 151 #[.string (bs l)] w fun e w'=>e=.returned (.int .i64 (formI l))∧w=w':=by
 have hcl:=comp_c l w hl
 rcases hco:comp l with _ | _
 ·rcases hst:isStar l with _ | _
  ·have hv:formI l=0:=by
    have:starOk l=false:=by
     rcases h:starOk l with _ | _
     ·rfl
     ·rw[starOk_star h] at hst;cases hst
    simp[formI,hco,this]
   rw[hv]
   clear hv
   go_enter Tryz.func151,Tryz.ntmps151
   go_wp2_with (first | (go_at_call 107;refine (comp_v _ _ _ hl hco).mono ?_;rintro e w' ⟨rfl,rfl⟩) | (go_at_call 19;refine (hasStar_v _ _ _ hst).mono ?_;rintro e w' ⟨rfl,rfl⟩))
   go_ret
   exact⟨rfl,rfl⟩
  ·cases l with
   |nil=>cases hst
   |cons c t=>
    have hc42:Hid (formI (c :: t)=if t.all isByte then 2 else 0):=by
     have e:(c == 42)=true:=hst
     show formI (c :: t)=_
     simp only[formI,hco,starOk_cons,e,Bool.true_and,Bool.false_eq_true,if_false]
    simp only[List.length_cons] at hl
    go_enter Tryz.func151,Tryz.ntmps151
    go_wp2_with (first | (go_at_call 107;refine (comp_v _ _ _ (by simp only[List.length_cons];omega) hco).mono ?_;rintro e w' ⟨rfl,rfl⟩) | (go_at_call 19;refine (hasStar_v _ _ _ hst).mono ?_;rintro e w' ⟨rfl,rfl⟩))
    go_loop [3] (fun i=>∃k:Nat,k≤t.length∧i=.int .i64 ((k:Int)+1)∧Hid ((t.take k).all isByte=true)) (fun i=>t.length+2 - (intOf i).toNat)
    case atStart=>exact⟨0,Nat.zero_le _,rfl,rfl⟩
    case round=>
     obtain⟨k,hk,rfl,hh⟩:=hrel
     by_cases hlt:k < t.length
     ·obtain⟨b,hb⟩:∃b,(c :: t)[k+1]'(by simpa using hlt)=b:=⟨_,rfl⟩
      cases hib:isByte b with
      |true=>
       go_wp2_with (go_at_call 149;refine (isByte_v _ _ _ hib).mono ?_;rintro e w' ⟨rfl,rfl⟩)
       go_round
       case rel=>exact⟨k+1,by omega,by go_num,tail_step (by simpa using hlt) hb hh.out hib⟩
       case measure=>simp[intOf];omega
      |false=>
       go_wp2_with (go_at_call 149;refine (isByte_v _ _ _ hib).mono ?_;rintro e w' ⟨rfl,rfl⟩)
       go_ret
       exact⟨ret_int (by rw[hc42.out,tail_stop (by simpa using hlt) hb hib];rfl),rfl⟩
     ·go_wp2
      go_ret
      have hk2:k=t.length:=by omega
      exact⟨ret_int (by rw[hc42.out];have:=hh.out;rw[hk2,List.take_of_length_le (by simp)] at this;rw[this];rfl),rfl⟩
 ·have hv:formI l=1:=by simp[formI,hco]
  rw[hv]
  clear hv
  go_enter Tryz.func151,Tryz.ntmps151
  go_wp2_with (go_at_call 107;refine (comp_v _ _ _ hl hco).mono ?_;rintro e w' ⟨rfl,rfl⟩)
  go_ret
  exact⟨rfl,rfl⟩
theorem form_v (l:List UInt8) (v:Int) (w:World) (hl:l.length≤140737488355328) (h:formI l=v):Calls Tryz.prog 151 #[.string (bs l)] w fun e w'=>e=.returned (.int .i64 v)∧w=w':=h ▸ form_c l w hl
def letters:List UInt8:=[65,66,67,68,69,70,71,72,73,74,75,76,77,78,79,80,81,82,83,84,85,86,87,88,89,90,97,98,99,100,101,102,103,104,105,106,107,108,109,110,111,112,113,114,115,116,117,118,119,120,121,122,48,49,50,51,52,53,54,55,56,57,95,46,43,45]
def lix (b:UInt8):Int:=Lib.indexByte letters b
theorem lix_fin:∀n:Fin 256,(decide (lix (UInt8.ofNat n.val) < 0))=!isByte (UInt8.ofNat n.val):=by decide +kernel
theorem lix_neg (b:UInt8):decide (lix b < 0)=!isByte b:=by
 have:=lix_fin ⟨b.toNat,b.toNat_lt⟩
 simpa using this
theorem lix_yes {b:UInt8} (h:isByte b=true):0≤lix b:=by
 have:=lix_neg b
 rw[h] at this
 simpa using this
theorem lix_no {b:UInt8} (h:isByte b=false):lix b < 0:=by
 have:=lix_neg b
 rw[h] at this
 simpa using this
theorem letters_c (L:ByteArray) (hL:L.data.toList=letters) (b:UInt8) (w:World):Calls Tryz.prog 93 #[.string L,.int .u8 (b.toNat:Int)] w fun e w'=>e=.returned (.int .i64 (lix b))∧w=w':=
 (Tryz.strings_IndexByte L (b.toNat:Int) w).mono fun _ _ ⟨he,hw⟩=>⟨by rw[he,hL];simp[lix],hw.symm⟩
set_option maxHeartbeats 400000 in
theorem rcomp_c (l:List UInt8) (w:World) (hl:l.length≤140737488355328):Calls Tryz.prog 55 #[.string (bs l)] w fun e w'=>e=.returned (.bool (comp l))∧w=w':=by
 cases l with
 |nil=>
  go_enter Tryz.func55,Tryz.ntmps55
  go_wp2
  go_ret
  exact⟨rfl,rfl⟩
 |cons c t=>
  simp only[List.length_cons] at hl
  by_cases h46:c=46
  ·subst h46
   go_enter Tryz.func55,Tryz.ntmps55
   go_wp2
   go_ret
   exact⟨rfl,rfl⟩
  ·have hc:((c.toNat:Int) == 46)=false:=by
    rw[beq_eq_false_iff_ne]
    intro e
    exact h46 (UInt8.toNat_inj.1 (by simp;omega))
   have H46:Hid (c≠46):=h46
   clear h46
   go_enter Tryz.func55,Tryz.ntmps55
   go_wp2_with fail
   go_loop [3] (fun i=>∃k:Nat,k≤t.length+1∧i=.int .i64 k∧Hid (((c :: t).take k).all isByte=true)) (fun i=>t.length+1 - (intOf i).toNat)
   case atStart=>exact⟨0,Nat.zero_le _,rfl,rfl⟩
   case round=>
    obtain⟨k,hk,rfl,hh⟩:=hrel
    by_cases hlt:k < t.length+1
    ·obtain⟨b,hb⟩:∃b,(c :: t)[k]'(by simpa using hlt)=b:=⟨_,rfl⟩
     cases hib:isByte b with
     |true=>
      have h0:=lix_yes hib
      go_wp2_with (go_at_call 93;refine (letters_c _ (by decide +kernel) _ _).mono ?_;rintro e w' ⟨rfl,rfl⟩)
      go_round
      case rel=>exact⟨k+1,by omega,by go_num,all_step (by simpa using hlt) hb hh.out hib⟩
      case measure=>simp[intOf];omega
     |false=>
      have h0:=lix_no hib
      go_wp2_with (go_at_call 93;refine (letters_c _ (by decide +kernel) _ _).mono ?_;rintro e w' ⟨rfl,rfl⟩)
      go_ret
      exact⟨ret_bool (by rw[comp_all c t H46.out,all_stop (by simpa using hlt) hb hib]),rfl⟩
    ·go_wp2
     go_ret
     have hk2:k=t.length+1:=by omega
     exact⟨ret_bool (by rw[comp_all c t H46.out];have:=hh.out;rw[hk2,List.take_of_length_le (by simp)] at this;exact this.symm),rfl⟩
def starSuf (l:Str):Str:=if starOk l then l.tail else []
theorem star_no {l:Str} (h:starOk l=false):Ending.returned (.tuple #[.string ⟨#[]⟩,.bool false])=.returned (.tuple #[.string (bs (starSuf l)),.bool (starOk l)]):=by
 rw[starSuf,h]
 rfl
theorem bs_extract1 (c:UInt8) (t:List UInt8) (n:Nat) (hn:n=t.length+1):(bs (c :: t)).extract 1 n=bs t:=by
 subst hn
 rw[ByteArray.ext_iff,ByteArray.data_extract]
 simp[bs]
theorem star_yes {c:UInt8} {t:Str} (h:starOk (c :: t)=true) {n:Nat} (hn:n=t.length+1):Ending.returned (.tuple #[.string ((bs (c :: t)).extract 1 n),.bool true])=.returned (.tuple #[.string (bs (starSuf (c :: t))),.bool (starOk (c :: t))]):=by
 rw[starSuf,h,bs_extract1 c t n hn]
 rfl
set_option maxHeartbeats 400000 in
theorem star_c (l:List UInt8) (w:World) (hl:l.length≤140737488355328):Calls Tryz.prog 144 #[.string (bs l)] w fun e w'=>e=.returned (.tuple #[.string (bs (starSuf l)),.bool (starOk l)])∧w=w':=by
 cases l with
 |nil=>
  go_enter Tryz.func144,Tryz.ntmps144
  go_wp2
  go_ret2
  exact⟨rfl,rfl⟩
 |cons c t=>
  simp only[List.length_cons] at hl
  by_cases h42:c=42
  ·have hst:Hid (starOk (c :: t)=t.all isByte):=by
    subst h42
    show starOk _=_
    simp[starOk_cons]
   subst h42
   go_enter Tryz.func144,Tryz.ntmps144
   go_wp2_with fail
   go_loop [4] (fun i=>∃k:Nat,k≤t.length∧i=.int .i64 ((k:Int)+1)∧Hid ((t.take k).all isByte=true)) (fun i=>t.length+2 - (intOf i).toNat)
   case atStart=>exact⟨0,Nat.zero_le _,rfl,rfl⟩
   case round=>
    obtain⟨k,hk,rfl,hh⟩:=hrel
    by_cases hlt:k < t.length
    ·obtain⟨b,hb⟩:∃b,(42 :: t)[k+1]'(by simpa using hlt)=b:=⟨_,rfl⟩
     cases hib:isByte b with
     |true=>
      have h0:=lix_yes hib
      go_wp2_with (go_at_call 93;refine (letters_c _ (by decide +kernel) _ _).mono ?_;rintro e w' ⟨rfl,rfl⟩)
      go_round
      case rel=>exact⟨k+1,by omega,by go_num,tail_step (by simpa using hlt) hb hh.out hib⟩
      case measure=>simp[intOf];omega
     |false=>
      have h0:=lix_no hib
      go_wp2_with (go_at_call 93;refine (letters_c _ (by decide +kernel) _ _).mono ?_;rintro e w' ⟨rfl,rfl⟩)
      go_ret2
      have hf:starOk (42 :: t)=false:=by rw[hst.out,tail_stop (by simpa using hlt) hb hib]
      exact⟨star_no hf,rfl⟩
    ·go_wp2
     go_ret2
     have hk2:k=t.length:=by omega
     have hf:starOk (42 :: t)=true:=by rw[hst.out];have:=hh.out;rw[hk2,List.take_of_length_le (by simp)] at this;exact this
     exact⟨star_yes hf rfl,rfl⟩
  ·have hst:Hid (starOk (c :: t)=false):=by
    show starOk _=_
    rw[starOk_cons,beq_eq_false_iff_ne.2 h42]
    rfl
   have hc:((c.toNat:Int) == 42)=false:=by
    rw[beq_eq_false_iff_ne]
    intro e
    exact h42 (UInt8.toNat_inj.1 (by simp;omega))
   clear h42
   go_enter Tryz.func144,Tryz.ntmps144
   go_wp2
   go_ret2
   exact⟨star_no hst.out,rfl⟩
theorem rcomp_v (l:List UInt8) (b:Bool) (w:World) (hl:l.length≤140737488355328) (h:comp l=b):Calls Tryz.prog 55 #[.string (bs l)] w fun e w'=>e=.returned (.bool b)∧w=w':=h ▸ rcomp_c l w hl
set_option maxHeartbeats 400000 in
theorem part_c (l:List UInt8) (w:World) (hl:l.length≤140737488355328):Calls Tryz.prog 140 #[.string (bs l)] w fun e w'=>e=.returned (.bool (partOk l))∧w=w':=by
 rcases hst:starOk l with _ | _
 ·have hv:partOk l=comp l:=by simp[partOk,hst]
  have hs:=star_c l w hl
  rw[hst] at hs
  rw[hv]
  clear hv
  go_enter Tryz.func140,Tryz.ntmps140
  go_wp2_with (first | (go_at_call 144;refine hs.mono ?_;rintro e w' ⟨rfl,rfl⟩) | (go_at_call 55;refine (rcomp_c _ _ hl).mono ?_;rintro e w' ⟨rfl,rfl⟩))
  go_ret
  exact⟨rfl,rfl⟩
 ·have hv:partOk l=true:=by simp[partOk,hst]
  have hs:=star_c l w hl
  rw[hst] at hs
  rw[hv]
  clear hv
  go_enter Tryz.func140,Tryz.ntmps140
  go_wp2_with (go_at_call 144;refine hs.mono ?_;rintro e w' ⟨rfl,rfl⟩)
  go_ret
  exact⟨rfl,rfl⟩
theorem part_v (l:List UInt8) (b:Bool) (w:World) (hl:l.length≤140737488355328) (h:partOk l=b):Calls Tryz.prog 140 #[.string (bs l)] w fun e w'=>e=.returned (.bool b)∧w=w':=h ▸ part_c l w hl
theorem StrsR.get {w:World} {A:Option Addr} {ls:List Str} (h:StrsR w A ls) {k:Nat} (hk:k < ls.length):∃b o l,A=some ⟨b,o,none⟩∧b < w.heap.size∧ls[k]?=some l∧l.length≤16384∧w.cell? ⟨b,o+k,none⟩=some (.string (bs l)):=by
 obtain⟨b,o,hA,hb,hc⟩:=h.at_ (by omega)
 exact⟨b,o,ls[k],hA,hb,List.getElem?_eq_getElem hk,h.each _ (List.getElem_mem hk),hc k _ (List.getElem?_eq_getElem hk)⟩
theorem good_of {ls:List Str} {k:Nat} {l:Str} (hl:ls[k]?=some l) (h:goodTo ls k=true) (hg:good k l=true):goodTo ls (k+1)=true:=by
 rw[goodTo_succ,h,List.getD_eq_getElem?_getD,hl]
 exact hg
set_option maxHeartbeats 1000000 in
theorem pcheck_c (p:Pat) (A:Option Addr) (c:Nat) (w:World) (hr:StrsR w A p.parts) (_hnc:p.parts.length≤c) (_hc47:c≤9223372036854775807):Calls Tryz.prog 110 #[.agg #[.slice A p.parts.length c,.bool p.rest]] w fun e w'=>e=.returned (.int .i64 (patErr p))∧Calm w w':=by
 have hlen:=hr.len
 obtain⟨n,hn⟩:∃n,p.parts.length=n:=⟨_,rfl⟩
 obtain⟨re,hre⟩:∃re,p.rest=re:=⟨_,rfl⟩
 have Hn:=Lib.hid hn
 have Hre:=Lib.hid hre
 rw[hn] at hlen
 rw[hn,hre]
 have HR:=Lib.hid hr
 clear hn hre hr
 by_cases h0:n=0
 ·have hv:patErr p=30:=by simp[patErr,Hn.out,h0]
  rw[hv,h0]
  clear hv
  go_enter Tryz.func110,Tryz.ntmps110
  go_wp2
  go_ret
  exact⟨rfl,(Calm.refl w).alloc _⟩
 ·by_cases h1:n=1∧re=false
  ·have hv:patErr p=30:=by simp[patErr,Hn.out,Hre.out,h1.1,h1.2]
   rw[hv]
   clear hv
   obtain⟨rfl,rfl⟩:=h1
   go_enter Tryz.func110,Tryz.ntmps110
   go_wp2
   go_ret
   exact⟨rfl,(Calm.refl w).alloc _⟩
  ·have H1:Hid (¬(n=1∧re=false)):=h1
   have hb0:((n:Int) == 0)=false:=by simp;omega
   have hb1:((n:Int) == 1)=false∨(((n:Int) == 1)=true∧re=true):=by
    by_cases e:n=1
    ·right
     refine⟨by simp;omega,?_⟩
     rcases re with _ | _
     ·exact absurd ⟨e,rfl⟩ h1
     ·rfl
    ·left;simp;omega
   clear h1
   have core:∀w1:World,Calm w w1→(∀k,k < n→∃b o l,A=some ⟨b,o,none⟩∧p.parts[k]?=some l∧l.length≤16384∧w1.cell? ⟨b,o+k,none⟩=some (.string (bs l))):=fun w1 hc k hk=>by
    obtain⟨b,o,l,h1,_,h2,h3,h4⟩:=(HR.out.calm hc).get (k:=k) (by rw[Hn.out];exact hk)
    exact⟨b,o,l,h1,h2,h3,h4⟩
   have Hcore:=Lib.hid (core _ ((Calm.refl w).alloc (.cells #[.slice A n c,.bool re] 51)))
   clear core HR
   have hgo:n≤16384:=hlen
   go_enter Tryz.func110,Tryz.ntmps110
   rcases hb1 with hb1 | ⟨hb1,rfl⟩
   all_goals
    go_wp2_with fail
    go_loop [23] (fun i=>∃k:Nat,k≤n∧i=.int .i64 k∧Hid (goodTo p.parts k=true)) (fun i=>n - (intOf i).toNat)
    case atStart=>exact⟨0,Nat.zero_le _,rfl,rfl⟩
    case round=>
     obtain⟨k,hk,rfl,hh⟩:=hrel
     by_cases hlt:k < n
     ·obtain⟨b,o,l,rfl,hl,hll,hcell⟩:=Hcore.out k hlt
      have Hl:=Lib.hid hl
      clear hl Hcore
      rcases form_cases l with hf | hf | hf
      ·have hg:Hid (good k l=true):=by show good k l=true;unfold good;split <;> simp[hf.2,partOk]
       have hf1:=hf.1
       clear hf
       go_wp2_with (go_at_call 151;refine (form_v _ _ _ (by omega) hf1).mono ?_;rintro e w' ⟨rfl,rfl⟩)
       go_round
       case rel=>exact⟨k+1,by omega,by go_num,good_of Hl.out hh.out hg.out⟩
       case measure=>simp[intOf];omega
      ·have hf1:=hf.1
       by_cases hk0:k=0
       ·have hv:Hid (patErr p=30):=patErr_bad Hl.out (by show good k l=false;simp[good,hk0,hf.2])
        have hkb:((k:Int) == 0)=true:=by simp;omega
        clear hf hk0
        go_wp2_with (go_at_call 151;refine (form_v _ _ _ (by omega) hf1).mono ?_;rintro e w' ⟨rfl,rfl⟩)
        go_ret
        exact⟨ret_int hv.out.symm,(Calm.refl w).alloc _⟩
       ·have hg:Hid (good k l=true):=by show good k l=true;simp[good,hk0,hf.2,partOk]
        have hkb:((k:Int) == 0)=false:=by simp;omega
        clear hf hk0
        go_wp2_with (go_at_call 151;refine (form_v _ _ _ (by omega) hf1).mono ?_;rintro e w' ⟨rfl,rfl⟩)
        go_round
        case rel=>exact⟨k+1,by omega,by go_num,good_of Hl.out hh.out hg.out⟩
        case measure=>simp[intOf];omega
      ·have hf1:=hf.1
       have hv:Hid (patErr p=30):=patErr_bad Hl.out (by show good k l=false;unfold good;split <;> simp[hf.2,partOk])
       clear hf
       go_wp2_with (go_at_call 151;refine (form_v _ _ _ (by omega) hf1).mono ?_;rintro e w' ⟨rfl,rfl⟩)
       go_ret
       exact⟨ret_int hv.out.symm,(Calm.refl w).alloc _⟩
     ·have hkn:Hid (goodTo p.parts n=true):=by
       have:k=n:=by omega
       rw[←this];exact hh.out
      clear Hcore
      have hv:Hid (patErr p=if 12 < n then 31 else 0):=by
       show patErr p=_
       rw[patErr_good (by rw[Hn.out];exact h0) (by rw[Hn.out,Hre.out];exact H1.out) (by rw[Hn.out];exact hkn.out),Hn.out]
      by_cases h12:12 < n
      ·go_wp2
       go_ret
       exact⟨ret_int (by rw[hv.out,if_pos h12]),(Calm.refl w).alloc _⟩
      ·go_wp2
       go_ret
       exact⟨ret_int (by rw[hv.out,if_neg h12]),(Calm.refl w).alloc _⟩
set_option maxHeartbeats 1000000 in
theorem rcheck_c (p:Pat) (A:Option Addr) (c:Nat) (w:World) (hr:StrsR w A p.parts) (hnc:p.parts.length≤c) (hc47:c≤9223372036854775807):Calls Tryz.prog 94 #[.agg #[.slice A p.parts.length c,.bool p.rest]] w fun e w'=>e=.returned (.int .i64 (patErr p))∧Calm w w':=by
 have hlen:=hr.len
 obtain⟨n,hn⟩:∃n,p.parts.length=n:=⟨_,rfl⟩
 obtain⟨re,hre⟩:∃re,p.rest=re:=⟨_,rfl⟩
 have Hn:=Lib.hid hn
 have Hre:=Lib.hid hre
 rw[hn] at hlen hnc
 rw[hn,hre]
 have HR:=Lib.hid hr
 clear hn hre hr
 by_cases h0:n=0
 ·have hv:patErr p=30:=by simp[patErr,Hn.out,h0]
  rw[hv,h0]
  clear hv
  go_enter Tryz.func94,Tryz.ntmps94
  go_wp2
  go_ret
  exact⟨rfl,(Calm.refl w).alloc _⟩
 ·by_cases h1:n=1∧re=false
  ·have hv:patErr p=30:=by simp[patErr,Hn.out,Hre.out,h1.1,h1.2]
   rw[hv]
   clear hv
   obtain⟨rfl,rfl⟩:=h1
   go_enter Tryz.func94,Tryz.ntmps94
   go_wp2
   go_ret
   exact⟨rfl,(Calm.refl w).alloc _⟩
  ·have H1:Hid (¬(n=1∧re=false)):=h1
   have hb0:((n:Int) == 0)=false:=by simp;omega
   have hb1:((n:Int) == 1)=false∨(((n:Int) == 1)=true∧re=true):=by
    by_cases e:n=1
    ·right
     refine⟨by simp;omega,?_⟩
     rcases re with _ | _
     ·exact absurd ⟨e,rfl⟩ h1
     ·rfl
    ·left;simp;omega
   clear h1
   obtain⟨b,o,x,rfl,hbw,hx,hxl,hcx⟩:=HR.out.get (k:=0) (by rw[Hn.out];omega)
   have core:∀w1:World,Calm w w1→(∀k,k < n→∃l,p.parts[k]?=some l∧l.length≤16384∧w1.cell? ⟨b,o+k,none⟩=some (.string (bs l))):=fun w1 hc k hk=>by
    obtain⟨b',o',l,h1,_,h2,h3,h4⟩:=(HR.out.calm hc).get (k:=k) (by rw[Hn.out];exact hk)
    cases h1
    exact⟨l,h2,h3,h4⟩
   have Hcore:=Lib.hid (core _ ((Calm.refl w).alloc (.cells #[.slice (some ⟨b,o,none⟩) n c,.bool re] 51)))
   have Hx:=Lib.hid hx
   have hpos:0 < n:=by omega
   have hcell0:(w.alloc (.cells #[.slice (some ⟨b,o,none⟩) n c,.bool re] 51)).cell? ⟨b,o,none⟩=some (.string (bs x)):=by
    obtain⟨l,h2,_,h4⟩:=Hcore.out 0 hpos
    rw[hx] at h2
    cases h2
    exact h4
   clear core HR hx hcx
   rcases hcx:comp x with _ | _
   ·have hv:Hid (patErr p=30):=patErr_bad Hx.out (by show good 0 x=false;simp[good,hcx])
    clear Hcore
    go_enter Tryz.func94,Tryz.ntmps94
    rcases hb1 with hb1 | ⟨hb1,rfl⟩
    all_goals
     go_wp2_with (go_at_call 55;refine (rcomp_v _ _ _ (by omega) hcx).mono ?_;rintro e w' ⟨rfl,rfl⟩)
     go_ret
     exact⟨ret_int hv.out.symm,(Calm.refl w).alloc _⟩
   ·have hg0:Hid (goodTo p.parts 1=true):=good_of Hx.out (by simp[goodTo]) (by simp[good,hcx])
    obtain⟨m,hm⟩:∃m,m=n - 1:=⟨_,rfl⟩
    have hnm:Hid (n=m+1):=by show n=m+1;omega
    have hm1:m+1≤n:=by omega
    have hm2:n≤m+1:=by omega
    have hm3:=Lib.hid hm
    have hfin:∀k:Nat,goodTo p.parts (k+1)=true→m≤k→k≤m→patErr p=if 12 < n then 31 else 0:=fun k hk h1 h2=>by
     have e:k+1=n:=by omega
     rw[e] at hk
     rw[patErr_good (by rw[Hn.out];exact h0) (by rw[Hn.out,Hre.out];exact H1.out) (by rw[Hn.out];exact hk),Hn.out]
    have Hfin:=Lib.hid hfin
    clear hfin
    have hm4:((n - 1:Nat):Int)=(m:Int):=by omega
    have hm5:n - 1=m:=by omega
    clear hm
    by_cases hc1:c=1
    ·subst hc1
     obtain rfl:n=1:=by omega
     rcases hb1 with hb1 | ⟨hb1,rfl⟩
     ·simp at hb1
     have hv:=Lib.hid (Hfin.out 0 hg0.out (by omega) (by omega))
     clear hb0 hb1 hm4 hm5 Hcore Hfin h0
     go_enter Tryz.func94,Tryz.ntmps94
     go_wp2_with (go_at_call 55;refine (rcomp_v _ _ _ (by omega) hcx).mono ?_;rintro e w' ⟨rfl,rfl⟩)
     go_loop [32] (fun i=>i=.int .i64 0) (fun i=>0)
     case atStart=>rfl
     case round=>
      subst hrel
      go_wp2
      go_ret
      exact⟨ret_int (by rw[hv.out];rfl),(Calm.refl w).alloc _⟩
    ·go_enter Tryz.func94,Tryz.ntmps94
     rcases hb1 with hb1 | ⟨hb1,rfl⟩
     all_goals
      go_wp2_with (go_at_call 55;refine (rcomp_v _ _ _ (by omega) hcx).mono ?_;rintro e w' ⟨rfl,rfl⟩)
      go_loop [32] (fun i=>∃k:Nat,k≤m∧i=.int .i64 k∧Hid (goodTo p.parts (k+1)=true)) (fun i=>m - (intOf i).toNat)
      case atStart=>exact⟨0,Nat.zero_le _,rfl,hg0⟩
      case round=>
       obtain⟨k,hk,rfl,hh⟩:=hrel
       by_cases hlt:k < m
       ·obtain⟨l,hl,hll,hcell⟩:=Hcore.out (k+1) (by omega)
        rw[show o+(k+1)=o+1+k by omega] at hcell
        have Hl:=Lib.hid hl
        clear hl Hcore Hfin hcell0
        rcases hf:partOk l with _ | _
        ·have hv:Hid (patErr p=30):=patErr_bad Hl.out (by show good (k+1) l=false;simpa[good] using hf)
         go_wp2_with (go_at_call 140;refine (part_v _ _ _ (by omega) hf).mono ?_;rintro e w' ⟨rfl,rfl⟩)
         go_ret
         exact⟨ret_int hv.out.symm,(Calm.refl w).alloc _⟩
        ·have hg:Hid (goodTo p.parts (k+1+1)=true):=good_of Hl.out hh.out (by simpa[good] using hf)
         go_wp2_with (go_at_call 140;refine (part_v _ _ _ (by omega) hf).mono ?_;rintro e w' ⟨rfl,rfl⟩)
         go_round
         case rel=>exact⟨k+1,by omega,by go_num,hg⟩
         case measure=>simp[intOf];omega
       ·have hv:=Lib.hid (Hfin.out k hh.out (by omega) hk)
        clear Hcore Hfin
        by_cases h12:12 < n
        ·go_wp2
         go_ret
         exact⟨ret_int (by rw[hv.out,if_pos h12]),(Calm.refl w).alloc _⟩
        ·go_wp2
         go_ret
         exact⟨ret_int (by rw[hv.out,if_neg h12]),(Calm.refl w).alloc _⟩
end Go.Proofs.YtdcdabbepnahnaaGreatDoor
