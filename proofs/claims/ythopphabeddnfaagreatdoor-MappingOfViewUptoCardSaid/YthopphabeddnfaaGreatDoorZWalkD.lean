/- Walks: the reference's Check of a pattern. -/
import Derived.WalkLawsBesides
import Derived.WalkSpells
import Derived.Test.YthopphabeddnfaaGreatDoorZStr
import Derived.Test.YthopphabeddnfaaGreatDoorZShelf
set_option linter.unusedVariables false
set_option linter.unusedSimpArgs false
namespace Go.Proofs.YthopphabeddnfaaGreatDoor
open Go Go.RowKit Sy

theorem isByte_iff (c : UInt8) : isByte c = true ↔ (65 ≤ (c.toNat : Int) ∧ (c.toNat : Int) ≤ 90) ∨ (97 ≤ (c.toNat : Int) ∧ (c.toNat : Int) ≤ 122) ∨ (48 ≤ (c.toNat : Int) ∧ (c.toNat : Int) ≤ 57) ∨ (c.toNat : Int) = 95 ∨ (c.toNat : Int) = 46 ∨ (c.toNat : Int) = 43 ∨ (c.toNat : Int) = 45:=by
 have e : ∀ k : UInt8,(c = k) ↔ (c.toNat : Int) = k.toNat:=fun k=>by rw [← UInt8.toNat_inj];omega
 simp only [isByte,Bool.or_eq_true,Bool.and_eq_true,decide_eq_true_eq,beq_iff_eq,UInt8.le_iff_toNat_le,e]
 simp only [UInt8.reduceToNat]
 omega

set_option maxHeartbeats 400000 in
theorem isByte_c (c : UInt8) (w : World) : Calls Tryz.prog 103 #[.int .u8 (c.toNat : Int)] w fun e w'=>e = .returned (.bool (isByte c)) ∧ w = w':=by
 go_enter Tryz.func103,Tryz.ntmps103
 go_wp2
 all_goals
  go_ret
  refine ⟨ret_bool ?_,rfl⟩
  rw [Bool.eq_iff_iff,isByte_iff]
  simp
  omega

theorem isByte_v (c : UInt8) (b : Bool) (w : World) (h : isByte c = b) : Calls Tryz.prog 103 #[.int .u8 (c.toNat : Int)] w fun e w'=>e = .returned (.bool b) ∧ w = w':=h ▸ isByte_c c w

theorem comp_all (c : UInt8) (t : List UInt8) (h : c ≠ 46) : comp (c :: t) = (c :: t).all isByte:=by
 have h' : (c != 46) = true:=bne_iff_ne.2 h
 simp only [comp,h',Bool.true_and,List.all_cons]
theorem all_step {l : List UInt8} {k : Nat} {b : UInt8} (hk : k < l.length) (hb : l[k] = b) (h : (l.take k).all isByte = true) (hs : isByte b = true) : (l.take (k + 1)).all isByte = true:=by
 rw [List.take_succ_eq_append_getElem hk,hb]
 simp only [List.all_append,List.all_cons,List.all_nil,Bool.and_true,Bool.and_eq_true]
 exact ⟨h,hs⟩
theorem all_stop {l : List UInt8} {k : Nat} {b : UInt8} (hk : k < l.length) (hb : l[k] = b) (hs : isByte b = false) : l.all isByte = false:=by
 rw [List.all_eq_false]
 exact ⟨b,by rw [← hb];exact List.getElem_mem hk,by simp [hs]⟩

set_option maxHeartbeats 400000 in
theorem comp_c (l : List UInt8) (w : World) (hl : l.length ≤ 140737488355328) : Calls Tryz.prog 101 #[.string (bs l)] w fun e w'=>e = .returned (.bool (comp l)) ∧ w = w':=by

 cases l with
 |nil=>
  go_enter Tryz.func101,Tryz.ntmps101
  go_wp2
  go_ret
  exact ⟨rfl,rfl⟩
 |cons c t=>
  simp only [List.length_cons] at hl
  by_cases h46 : c = 46
  ·subst h46
   go_enter Tryz.func101,Tryz.ntmps101
   go_wp2
   go_ret
   exact ⟨rfl,rfl⟩
  ·have hc : ((c.toNat : Int) == 46) = false:=by
    rw [beq_eq_false_iff_ne]
    intro e
    exact h46 (UInt8.toNat_inj.1 (by simp;omega))
   have H46 : Hid (c ≠ 46):=h46
   clear h46
   go_enter Tryz.func101,Tryz.ntmps101
   go_wp2_with fail
   go_loop [13] (fun i=>∃ k : Nat,k ≤ t.length + 1 ∧ i = .int .i64 k ∧ Hid (((c :: t).take k).all isByte = true)) (fun i=>t.length + 1 - (intOf i).toNat)
   case atStart=>exact ⟨0,Nat.zero_le _,rfl,rfl⟩
   case round=>
    obtain ⟨k,hk,rfl,hh⟩:=hrel
    by_cases hlt : k < t.length + 1
    ·obtain ⟨b,hb⟩ : ∃ b,(c :: t)[k]'(by simpa using hlt) = b:=⟨_,rfl⟩
     cases hib : isByte b with
     |true=>
      go_wp2_with (go_at_call 103;refine (isByte_v _ _ _ hib).mono ?_;rintro e w' ⟨rfl,rfl⟩)
      go_round
      case rel=>exact ⟨k + 1,by omega,by go_num,all_step (by simpa using hlt) hb hh.out hib⟩
      case measure=>simp [intOf];omega
     |false=>
      go_wp2_with (go_at_call 103;refine (isByte_v _ _ _ hib).mono ?_;rintro e w' ⟨rfl,rfl⟩)
      go_ret
      exact ⟨ret_bool (by rw [comp_all c t H46.out,all_stop (by simpa using hlt) hb hib]),rfl⟩
    ·go_wp2
     go_ret
     have hk2 : k = t.length + 1:=by omega
     exact ⟨ret_bool (by rw [comp_all c t H46.out];have:=hh.out;rw [hk2,List.take_of_length_le (by simp)] at this;exact this.symm),rfl⟩

theorem comp_v (l : List UInt8) (b : Bool) (w : World) (hl : l.length ≤ 140737488355328) (h : comp l = b) : Calls Tryz.prog 101 #[.string (bs l)] w fun e w'=>e = .returned (.bool b) ∧ w = w':=h ▸ comp_c l w hl

theorem hasPrefix42 (l : List UInt8) : Lib.hasPrefix l [42] = isStar l:=by
 cases l with
 |nil=>rfl
 |cons c t=>
  show ((42 == c) && ([] : List UInt8).isPrefixOf t) = (c == 42)
  rw [List.isPrefixOf_nil_left,Bool.and_true,Bool.eq_iff_iff,beq_iff_eq,beq_iff_eq]
  exact ⟨Eq.symm,Eq.symm⟩
theorem hasStar_c (l : List UInt8) (w : World) : Calls Tryz.prog 100 #[.string (bs l),.string ⟨#[42]⟩] w fun e w'=>e = .returned (.bool (isStar l)) ∧ w = w':=
 (Tryz.strings_HasPrefix (bs l) ⟨#[42]⟩ w).mono fun _ _ ⟨he,hw⟩=>⟨by rw [he,bs_toList,← hasPrefix42],hw.symm⟩

theorem hasStar_v (l : List UInt8) (b : Bool) (w : World) (h : isStar l = b) : Calls Tryz.prog 100 #[.string (bs l),.string ⟨#[42]⟩] w fun e w'=>e = .returned (.bool b) ∧ w = w':=h ▸ hasStar_c l w

theorem isStar_c (l : List UInt8) (w : World) : Calls Tryz.prog 76 #[.string (bs l)] w fun e w'=>e = .returned (.bool (isStar l)) ∧ w = w':=by
 go_enter Tryz.func76,Tryz.ntmps76
 go_wp2_with (go_at_call 100;refine (hasStar_c _ _).mono ?_;rintro e w' ⟨rfl,rfl⟩)
 go_ret
 exact ⟨rfl,rfl⟩

theorem starOk_cons (c : UInt8) (t : List UInt8) : starOk (c :: t) = (c == 42 && t.all isByte):=rfl
theorem starOk_star {l : List UInt8} (h : starOk l = true) : isStar l = true:=by
 cases l with
 |nil=>exact h
 |cons c t=>rw [starOk_cons,Bool.and_eq_true] at h;exact h.1

theorem tail_step {c : UInt8} {t : List UInt8} {k : Nat} {b : UInt8} (hk : k + 1 < (c :: t).length) (hb : (c :: t)[k + 1] = b) (h : (t.take k).all isByte = true) (hs : isByte b = true) : (t.take (k + 1)).all isByte = true:=
 all_step (l:=t) (k:=k) (b:=b) (by simpa using hk) (by simpa using hb) h hs
theorem tail_stop {c : UInt8} {t : List UInt8} {k : Nat} {b : UInt8} (hk : k + 1 < (c :: t).length) (hb : (c :: t)[k + 1] = b) (hs : isByte b = false) : t.all isByte = false:=
 all_stop (l:=t) (k:=k) (b:=b) (by simpa using hk) (by simpa using hb) hs

set_option maxHeartbeats 400000 in
theorem form_c (l : List UInt8) (w : World) (hl : l.length ≤ 140737488355328) : Calls Tryz.prog 79 #[.string (bs l)] w fun e w'=>e = .returned (.int .i64 (formI l)) ∧ w = w':=by
 have hcl:=comp_c l w hl

 rcases hco : comp l with _ | _
 ·rcases hst : isStar l with _ | _
  ·have hv : formI l = 0:=by
    have : starOk l = false:=by
     rcases h : starOk l with _ | _
     ·rfl
     ·rw [starOk_star h] at hst;cases hst
    simp [formI,hco,this]
   rw [hv]
   clear hv
   go_enter Tryz.func79,Tryz.ntmps79
   go_wp2_with (first | (go_at_call 101;refine (comp_v _ _ _ hl hco).mono ?_;rintro e w' ⟨rfl,rfl⟩) | (go_at_call 100;refine (hasStar_v _ _ _ hst).mono ?_;rintro e w' ⟨rfl,rfl⟩))
   go_ret
   exact ⟨rfl,rfl⟩
  ·cases l with
   |nil=>cases hst
   |cons c t=>
    have hc42 : Hid (formI (c :: t) = if t.all isByte then 2 else 0):=by
     have e : (c == 42) = true:=hst
     show formI (c :: t) = _
     simp only [formI,hco,starOk_cons,e,Bool.true_and,Bool.false_eq_true,if_false]
    simp only [List.length_cons] at hl
    go_enter Tryz.func79,Tryz.ntmps79
    go_wp2_with (first | (go_at_call 101;refine (comp_v _ _ _ (by simp only [List.length_cons];omega) hco).mono ?_;rintro e w' ⟨rfl,rfl⟩) | (go_at_call 100;refine (hasStar_v _ _ _ hst).mono ?_;rintro e w' ⟨rfl,rfl⟩))
    go_loop [3] (fun i=>∃ k : Nat,k ≤ t.length ∧ i = .int .i64 ((k : Int) + 1) ∧ Hid ((t.take k).all isByte = true)) (fun i=>t.length + 2 - (intOf i).toNat)
    case atStart=>exact ⟨0,Nat.zero_le _,rfl,rfl⟩
    case round=>
     obtain ⟨k,hk,rfl,hh⟩:=hrel
     by_cases hlt : k < t.length
     ·obtain ⟨b,hb⟩ : ∃ b,(c :: t)[k + 1]'(by simpa using hlt) = b:=⟨_,rfl⟩
      cases hib : isByte b with
      |true=>
       go_wp2_with (go_at_call 103;refine (isByte_v _ _ _ hib).mono ?_;rintro e w' ⟨rfl,rfl⟩)
       go_round
       case rel=>exact ⟨k + 1,by omega,by go_num,tail_step (by simpa using hlt) hb hh.out hib⟩
       case measure=>simp [intOf];omega
      |false=>
       go_wp2_with (go_at_call 103;refine (isByte_v _ _ _ hib).mono ?_;rintro e w' ⟨rfl,rfl⟩)
       go_ret
       exact ⟨ret_int (by rw [hc42.out,tail_stop (by simpa using hlt) hb hib];rfl),rfl⟩
     ·go_wp2
      go_ret
      have hk2 : k = t.length:=by omega
      exact ⟨ret_int (by rw [hc42.out];have:=hh.out;rw [hk2,List.take_of_length_le (by simp)] at this;rw [this];rfl),rfl⟩
 ·have hv : formI l = 1:=by simp [formI,hco]
  rw [hv]
  clear hv
  go_enter Tryz.func79,Tryz.ntmps79
  go_wp2_with (go_at_call 101;refine (comp_v _ _ _ hl hco).mono ?_;rintro e w' ⟨rfl,rfl⟩)
  go_ret
  exact ⟨rfl,rfl⟩

theorem form_v (l : List UInt8) (v : Int) (w : World) (hl : l.length ≤ 140737488355328) (h : formI l = v) : Calls Tryz.prog 79 #[.string (bs l)] w fun e w'=>e = .returned (.int .i64 v) ∧ w = w':=h ▸ form_c l w hl
end Go.Proofs.YthopphabeddnfaaGreatDoor
set_option linter.unusedVariables false
set_option linter.unusedSimpArgs false
namespace Go.Proofs.YthopphabeddnfaaGreatDoor
open Go Go.RowKit Sy

end Go.Proofs.YthopphabeddnfaaGreatDoor
set_option linter.unusedVariables false
set_option linter.unusedSimpArgs false
namespace Go.Proofs.YthopphabeddnfaaGreatDoor
open Go Go.RowKit Sy

theorem StrsR.get {w : World} {A : Option Addr} {ls : List Str} (h : StrsR w A ls) {k : Nat} (hk : k < ls.length) : ∃ b o l,A = some ⟨b,o,none⟩ ∧ b < w.heap.size ∧ ls[k]? = some l ∧ l.length ≤ 4194304 ∧ w.cell? ⟨b,o + k,none⟩ = some (.string (bs l)):=by
 obtain ⟨b,o,hA,hb,hc⟩:=h.at_ (by omega)
 exact ⟨b,o,ls[k],hA,hb,List.getElem?_eq_getElem hk,h.each _ (List.getElem_mem hk),hc k _ (List.getElem?_eq_getElem hk)⟩

theorem good_of {ls : List Str} {k : Nat} {l : Str} (hl : ls[k]? = some l) (h : goodTo ls k = true) (hg : good k l = true) : goodTo ls (k + 1) = true:=by
 rw [goodTo_succ,h,List.getD_eq_getElem?_getD,hl]
 exact hg

set_option maxHeartbeats 1000000 in
theorem pcheck_c (p : Pat) (A : Option Addr) (c : Nat) (w : World) (hr : StrsR w A p.parts) (_hnc : p.parts.length ≤ c) (_hc47 : c ≤ 9223372036854775807) : Calls Tryz.prog 60 #[.agg #[.slice A p.parts.length c,.bool p.rest]] w fun e w'=>e = .returned (.int .i64 (patErr p)) ∧ Calm w w':=by
 have hlen:=hr.len
 obtain ⟨n,hn⟩ : ∃ n,p.parts.length = n:=⟨_,rfl⟩
 obtain ⟨re,hre⟩ : ∃ re,p.rest = re:=⟨_,rfl⟩
 have Hn:=Lib.hid hn
 have Hre:=Lib.hid hre
 rw [hn] at hlen
 rw [hn,hre]
 have HR:=Lib.hid hr
 clear hn hre hr
 by_cases h0 : n = 0
 ·have hv : patErr p = 30:=by simp [patErr,Hn.out,h0]
  rw [hv,h0]
  clear hv
  go_enter Tryz.func60,Tryz.ntmps60
  go_wp2
  go_ret
  exact ⟨rfl,(Calm.refl w).alloc _⟩
 ·by_cases h1 : n = 1 ∧ re = false
  ·have hv : patErr p = 30:=by simp [patErr,Hn.out,Hre.out,h1.1,h1.2]
   rw [hv]
   clear hv
   obtain ⟨rfl,rfl⟩:=h1
   go_enter Tryz.func60,Tryz.ntmps60
   go_wp2
   go_ret
   exact ⟨rfl,(Calm.refl w).alloc _⟩
  ·have H1 : Hid (¬ (n = 1 ∧ re = false)):=h1
   have hb0 : ((n : Int) == 0) = false:=by simp;omega
   have hb1 : ((n : Int) == 1) = false ∨ (((n : Int) == 1) = true ∧ re = true):=by
    by_cases e : n = 1
    ·right
     refine ⟨by simp;omega,?_⟩
     rcases re with _ | _
     ·exact absurd ⟨e,rfl⟩ h1
     ·rfl
    ·left;simp;omega
   clear h1
   have core : ∀ w1 : World,Calm w w1 → (∀ k,k < n → ∃ b o l,A = some ⟨b,o,none⟩ ∧ p.parts[k]? = some l ∧ l.length ≤ 4194304 ∧ w1.cell? ⟨b,o + k,none⟩ = some (.string (bs l))):=fun w1 hc k hk=>by
    obtain ⟨b,o,l,h1,_,h2,h3,h4⟩:=(HR.out.calm hc).get (k:=k) (by rw [Hn.out];exact hk)
    exact ⟨b,o,l,h1,h2,h3,h4⟩
   have Hcore:=Lib.hid (core _ ((Calm.refl w).alloc (.cells #[.slice A n c,.bool re] 37)))
   clear core HR
   have hgo : n ≤ 4194304:=hlen
   go_enter Tryz.func60,Tryz.ntmps60
   rcases hb1 with hb1 | ⟨hb1,rfl⟩
   all_goals
    go_wp2_with fail
    go_loop [23] (fun i=>∃ k : Nat,k ≤ n ∧ i = .int .i64 k ∧ Hid (goodTo p.parts k = true)) (fun i=>n - (intOf i).toNat)
    case atStart=>exact ⟨0,Nat.zero_le _,rfl,rfl⟩
    case round=>
     obtain ⟨k,hk,rfl,hh⟩:=hrel
     by_cases hlt : k < n
     ·obtain ⟨b,o,l,rfl,hl,hll,hcell⟩:=Hcore.out k hlt
      have Hl:=Lib.hid hl
      clear hl Hcore
      rcases form_cases l with hf | hf | hf
      ·have hg : Hid (good k l = true):=by show good k l = true;unfold good;split <;> simp [hf.2,partOk]
       have hf1:=hf.1
       clear hf
       go_wp2_with (go_at_call 79;refine (form_v _ _ _ (by omega) hf1).mono ?_;rintro e w' ⟨rfl,rfl⟩)
       go_round
       case rel=>exact ⟨k + 1,by omega,by go_num,good_of Hl.out hh.out hg.out⟩
       case measure=>simp [intOf];omega
      ·have hf1:=hf.1
       by_cases hk0 : k = 0
       ·have hv : Hid (patErr p = 30):=patErr_bad Hl.out (by show good k l = false;simp [good,hk0,hf.2])
        have hkb : ((k : Int) == 0) = true:=by simp;omega
        clear hf hk0
        go_wp2_with (go_at_call 79;refine (form_v _ _ _ (by omega) hf1).mono ?_;rintro e w' ⟨rfl,rfl⟩)
        go_ret
        exact ⟨ret_int hv.out.symm,(Calm.refl w).alloc _⟩
       ·have hg : Hid (good k l = true):=by show good k l = true;simp [good,hk0,hf.2,partOk]
        have hkb : ((k : Int) == 0) = false:=by simp;omega
        clear hf hk0
        go_wp2_with (go_at_call 79;refine (form_v _ _ _ (by omega) hf1).mono ?_;rintro e w' ⟨rfl,rfl⟩)
        go_round
        case rel=>exact ⟨k + 1,by omega,by go_num,good_of Hl.out hh.out hg.out⟩
        case measure=>simp [intOf];omega
      ·have hf1:=hf.1
       have hv : Hid (patErr p = 30):=patErr_bad Hl.out (by show good k l = false;unfold good;split <;> simp [hf.2,partOk])
       clear hf
       go_wp2_with (go_at_call 79;refine (form_v _ _ _ (by omega) hf1).mono ?_;rintro e w' ⟨rfl,rfl⟩)
       go_ret
       exact ⟨ret_int hv.out.symm,(Calm.refl w).alloc _⟩
     ·have hkn : Hid (goodTo p.parts n = true):=by
       have : k = n:=by omega
       rw [← this];exact hh.out
      clear Hcore
      have hv : Hid (patErr p = if 12 < n then 31 else 0):=by
       show patErr p = _
       rw [patErr_good (by rw [Hn.out];exact h0) (by rw [Hn.out,Hre.out];exact H1.out) (by rw [Hn.out];exact hkn.out),Hn.out]
      by_cases h12 : 12 < n
      ·go_wp2
       go_ret
       exact ⟨ret_int (by rw [hv.out,if_pos h12]),(Calm.refl w).alloc _⟩
      ·go_wp2
       go_ret
       exact ⟨ret_int (by rw [hv.out,if_neg h12]),(Calm.refl w).alloc _⟩
end Go.Proofs.YthopphabeddnfaaGreatDoor
set_option linter.unusedVariables false
set_option linter.unusedSimpArgs false
namespace Go.Proofs.YthopphabeddnfaaGreatDoor
open Go Go.RowKit Sy

end Go.Proofs.YthopphabeddnfaaGreatDoor
