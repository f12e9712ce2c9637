/- Walks: the two Checks of a pattern whose parts may be of any size (written by program out of WalkC and WalkD: gen_checkg.py). -/
import Derived.Test.YthopphabeddnfaaGreatDoorZWalkD
set_option linter.unusedVariables false
set_option linter.unusedSimpArgs false
namespace Go.Proofs.YthopphabeddnfaaGreatDoor
open Go Go.RowKit Sy

set_option maxHeartbeats 1000000 in
theorem pcheckG_c (p : Pat) (A : Option Addr) (c : Nat) (w : World) (hr : StrsG w A p.parts) (_hnc : p.parts.length ≤ c) (_hc47 : c ≤ 9223372036854775807) : Calls Tryz.prog 60 #[.agg #[.slice A p.parts.length c,.bool p.rest]] w fun e w'=>e = .returned (.int .i64 (patErr p)) ∧ Calm w w':=by
 have hlen:=hr.len
 obtain ⟨n,hn⟩ : ∃ n,p.parts.length = n:=⟨_,rfl⟩
 obtain ⟨re,hre⟩ : ∃ re,p.rest = re:=⟨_,rfl⟩
 have Hn:=Lib.hid hn
 have Hre:=Lib.hid hre
 rw [hn] at hlen
 rw [hn,hre]
 have HR:=Lib.hid hr
 clear hn hre hr
 by_cases h0 : n = 0
 ·have hv : patErr p = 30:=by simp [patErr,Hn.out,h0]
  rw [hv,h0]
  clear hv
  go_enter Tryz.func60,Tryz.ntmps60
  go_wp2
  go_ret
  exact ⟨rfl,(Calm.refl w).alloc _⟩
 ·by_cases h1 : n = 1 ∧ re = false
  ·have hv : patErr p = 30:=by simp [patErr,Hn.out,Hre.out,h1.1,h1.2]
   rw [hv]
   clear hv
   obtain ⟨rfl,rfl⟩:=h1
   go_enter Tryz.func60,Tryz.ntmps60
   go_wp2
   go_ret
   exact ⟨rfl,(Calm.refl w).alloc _⟩
  ·have H1 : Hid (¬ (n = 1 ∧ re = false)):=h1
   have hb0 : ((n : Int) == 0) = false:=by simp;omega
   have hb1 : ((n : Int) == 1) = false ∨ (((n : Int) == 1) = true ∧ re = true):=by
    by_cases e : n = 1
    ·right
     refine ⟨by simp;omega,?_⟩
     rcases re with _ | _
     ·exact absurd ⟨e,rfl⟩ h1
     ·rfl
    ·left;simp;omega
   clear h1
   have core : ∀ w1 : World,Calm w w1 → (∀ k,k < n → ∃ b o l,A = some ⟨b,o,none⟩ ∧ p.parts[k]? = some l ∧ l.length ≤ 140737488355328 ∧ w1.cell? ⟨b,o + k,none⟩ = some (.string (bs l))):=fun w1 hc k hk=>by
    obtain ⟨b,o,l,h1,_,h2,h3,h4⟩:=(HR.out.calm hc).get (k:=k) (by rw [Hn.out];exact hk)
    exact ⟨b,o,l,h1,h2,h3,h4⟩
   have Hcore:=Lib.hid (core _ ((Calm.refl w).alloc (.cells #[.slice A n c,.bool re] 37)))
   clear core HR
   have hgo : n ≤ 140737488355328:=hlen
   go_enter Tryz.func60,Tryz.ntmps60
   rcases hb1 with hb1 | ⟨hb1,rfl⟩
   all_goals
    go_wp2_with fail
    go_loop [23] (fun i=>∃ k : Nat,k ≤ n ∧ i = .int .i64 k ∧ Hid (goodTo p.parts k = true)) (fun i=>n - (intOf i).toNat)
    case atStart=>exact ⟨0,Nat.zero_le _,rfl,rfl⟩
    case round=>
     obtain ⟨k,hk,rfl,hh⟩:=hrel
     by_cases hlt : k < n
     ·obtain ⟨b,o,l,rfl,hl,hll,hcell⟩:=Hcore.out k hlt
      have Hl:=Lib.hid hl
      clear hl Hcore
      rcases form_cases l with hf | hf | hf
      ·have hg : Hid (good k l = true):=by show good k l = true;unfold good;split <;> simp [hf.2,partOk]
       have hf1:=hf.1
       clear hf
       go_wp2_with (go_at_call 79;refine (form_v _ _ _ (by omega) hf1).mono ?_;rintro e w' ⟨rfl,rfl⟩)
       go_round
       case rel=>exact ⟨k + 1,by omega,by go_num,good_of Hl.out hh.out hg.out⟩
       case measure=>simp [intOf];omega
      ·have hf1:=hf.1
       by_cases hk0 : k = 0
       ·have hv : Hid (patErr p = 30):=patErr_bad Hl.out (by show good k l = false;simp [good,hk0,hf.2])
        have hkb : ((k : Int) == 0) = true:=by simp;omega
        clear hf hk0
        go_wp2_with (go_at_call 79;refine (form_v _ _ _ (by omega) hf1).mono ?_;rintro e w' ⟨rfl,rfl⟩)
        go_ret
        exact ⟨ret_int hv.out.symm,(Calm.refl w).alloc _⟩
       ·have hg : Hid (good k l = true):=by show good k l = true;simp [good,hk0,hf.2,partOk]
        have hkb : ((k : Int) == 0) = false:=by simp;omega
        clear hf hk0
        go_wp2_with (go_at_call 79;refine (form_v _ _ _ (by omega) hf1).mono ?_;rintro e w' ⟨rfl,rfl⟩)
        go_round
        case rel=>exact ⟨k + 1,by omega,by go_num,good_of Hl.out hh.out hg.out⟩
        case measure=>simp [intOf];omega
      ·have hf1:=hf.1
       have hv : Hid (patErr p = 30):=patErr_bad Hl.out (by show good k l = false;unfold good;split <;> simp [hf.2,partOk])
       clear hf
       go_wp2_with (go_at_call 79;refine (form_v _ _ _ (by omega) hf1).mono ?_;rintro e w' ⟨rfl,rfl⟩)
       go_ret
       exact ⟨ret_int hv.out.symm,(Calm.refl w).alloc _⟩
     ·have hkn : Hid (goodTo p.parts n = true):=by
       have : k = n:=by omega
       rw [← this];exact hh.out
      clear Hcore
      have hv : Hid (patErr p = if 12 < n then 31 else 0):=by
       show patErr p = _
       rw [patErr_good (by rw [Hn.out];exact h0) (by rw [Hn.out,Hre.out];exact H1.out) (by rw [Hn.out];exact hkn.out),Hn.out]
      by_cases h12 : 12 < n
      ·go_wp2
       go_ret
       exact ⟨ret_int (by rw [hv.out,if_pos h12]),(Calm.refl w).alloc _⟩
      ·go_wp2
       go_ret
       exact ⟨ret_int (by rw [hv.out,if_neg h12]),(Calm.refl w).alloc _⟩

end Go.Proofs.YthopphabeddnfaaGreatDoor
