/- Walk: region.Void. -/
import Derived.Deep.LoopGhost
import Derived.Test.YthopphabeddnfaaGreatDoorZWalkI
set_option linter.unusedVariables false
set_option linter.unusedSimpArgs false
namespace Go.Proofs.YthopphabeddnfaaGreatDoor
open Go Go.RowKit Sy

theorem reaches_v (p : Pat) (n : Nat) (r : Bool) (A : Option Addr) (c : Nat) (w : World) (hv : reaches p n = r) (hlen : p.parts.length ≤ 4194304) : Calls Tryz.prog 71 #[.agg #[.slice A p.parts.length c,.bool p.rest],.int .i64 n] w fun e w'=>e = .returned (.bool r) ∧ Calm w w':=hv ▸ reaches_c p n A c w hlen

set_option maxHeartbeats 1000000 in
theorem lcl_pred (b : Pat) (n : Nat) (A : Option Addr) (c : Nat) (w : World) (Bn Bb : Nat) (hn : n ≤ 4200000) (hBn : Bn < w.heap.size) (hBb : Bb < w.heap.size) (cn : w.cell? ⟨Bn,0,none⟩ = some (.int .i64 n))
  (cb0 : w.cell? ⟨Bb,0,none⟩ = some (.slice A b.parts.length c)) (cb1 : w.cell? ⟨Bb,1,none⟩ = some (.bool b.rest)) (hb : StrsR w A b.parts) :
  PredP 70 #[.pointer (some ⟨Bn,0,none⟩),.pointer (some ⟨Bb,0,none⟩)] (fun h=>reaches h n && covers h b 0 n) w:=by
 intro W hW h Ah ch hh hhc hhc47
 show Calls Tryz.prog 70 #[.agg #[.slice Ah h.parts.length ch,.bool h.rest],.pointer (some ⟨Bn,0,none⟩),.pointer (some ⟨Bb,0,none⟩)] W _
 have dn:=hW.at_ cn hBn
 have d0:=hW.at_ cb0 hBb
 have d1:=hW.at_ cb1 hBb
 have hne1 : Bn ≠ W.heap.size:=by have:=hW.size;omega
 have hne2 : Bb ≠ W.heap.size:=by have:=hW.size;omega
 have HBn : Bn < W.heap.size:=Nat.lt_of_lt_of_le hBn hW.size
 have HBb : Bb < W.heap.size:=Nat.lt_of_lt_of_le hBb hW.size
 have HH:=Lib.hid hh
 have HB:=Lib.hid (hb.calm hW)
 have hlen:=hh.len
 clear hW cn cb0 cb1 hb hh hBn hBb
 rcases hr : reaches h n with _ | _
 ·go_enter Tryz.func70,Tryz.ntmps70
  go_wp2_with (go_at_call 71;refine (reaches_v _ _ _ _ _ _ hr hlen).mono ?_;rintro e w2 ⟨rfl,hc2⟩)
  go_ret
  exact ⟨ret_bool (by simp [hr]),((Calm.refl W).alloc _).trans hc2⟩
 ·obtain ⟨W1,hW1⟩ : ∃ W1,W1 = W.alloc (.cells #[.slice Ah h.parts.length ch,.bool h.rest] 37):=⟨_,rfl⟩
  have hc1 : Calm W W1:=by rw [hW1];exact (Calm.refl W).alloc _
  have hs1 : W.heap.size < W1.heap.size:=by rw [hW1];simp
  have k0 : W1.cell? ⟨W.heap.size,0,none⟩ = some (.slice Ah h.parts.length ch):=by rw [hW1];simp
  have k1 : W1.cell? ⟨W.heap.size,1,none⟩ = some (.bool h.rest):=by rw [hW1];simp
  have hcall:=reaches_v h n true Ah ch W1 hr hlen
  have HW:=Lib.hid hW1
  have HC:=Lib.hid hc1
  have HK:=Lib.hid (And.intro hs1 (And.intro k0 k1))
  have HD:=Lib.hid (And.intro dn (And.intro d0 d1))
  clear hW1 hc1 hs1 k0 k1
  have hcov:=fun W' (hc : Calm W1 W')=>covers_c h b 0 n Ah ch A c W' (by omega) hn (HH.out.calm (HC.out.trans hc)) (HB.out.calm (HC.out.trans hc))
  have HCov:=Lib.hid hcov
  clear hcov
  go_enter Tryz.func70,Tryz.ntmps70
  go_wp2_with (first
   |(go_at_call 71;rw [← HW.out];refine hcall.mono ?_;rintro e w2 ⟨rfl,hc2⟩;have l0:=hc2.at_ HK.out.2.1 HK.out.1;have l1:=hc2.at_ HK.out.2.2 HK.out.1;have m0:=(HC.out.trans hc2).at_ HD.out.1 HBn;have m1:=(HC.out.trans hc2).at_ HD.out.2.1 HBb;have m2:=(HC.out.trans hc2).at_ HD.out.2.2 HBb)
   |(go_at_call 72;refine (HCov.out _ hc2).mono ?_;rintro e w3 ⟨rfl,hc3⟩))
  go_ret
  exact ⟨ret_bool (by simp [hr]),HC.out.trans (hc2.trans hc3)⟩
def lastTo (b : Pat) (hs : List Pat) (k : Nat) : Nat:=(hs.take k).foldl (fun m h=>max m (h.parts.length + 1)) (b.parts.length + 1)
theorem lastTo_succ {b : Pat} {hs : List Pat} {k : Nat} {p : Pat} (h : hs[k]? = some p) : lastTo b hs (k + 1) = max (lastTo b hs k) (p.parts.length + 1):=by
 obtain ⟨hlt,he⟩:=List.getElem?_eq_some_iff.1 h
 simp only [lastTo,List.take_succ_eq_append_getElem hlt,List.foldl_append,he,List.foldl_cons,List.foldl_nil]
theorem lastTo_bound {b : Pat} {hs : List Pat} (hb : b.parts.length ≤ 4194304) (hh : ∀ p ∈ hs,p.parts.length ≤ 4194304) : ∀ k,lastTo b hs k ≤ 4194305 ∧ b.parts.length + 1 ≤ lastTo b hs k:=by
 intro k
 induction k with
 |zero=>simp [lastTo];omega
 |succ k ih=>
  rcases h : hs[k]? with _ | p
  ·have : lastTo b hs (k + 1) = lastTo b hs k:=by
    have hl:=List.getElem?_eq_none_iff.1 h
    simp [lastTo,List.take_of_length_le hl,List.take_of_length_le (show hs.length ≤ k + 1 by omega)]
   rw [this];exact ih
  ·rw [lastTo_succ h]
   have:=hh p (List.mem_of_getElem? h)
   omega
theorem seek_stop {b : Pat} {hs : List Pat} {n k : Nat} (h : full b hs n = false) (hk : 0 < k) : seek b hs n k = n:=by
 cases k with
 |zero=>omega
 |succ k=>simp [seek,h]
theorem seek_go {b : Pat} {hs : List Pat} {n k : Nat} (h : full b hs n = true) (hk : 0 < k) : seek b hs n k = seek b hs (n + 1) (k - 1):=by
 cases k with
 |zero=>omega
 |succ k=>simp [seek,h]

theorem PatsR.lens {w : World} {A : Option Addr} {ps : List Pat} (h : PatsR w A ps) : ∀ p ∈ ps,p.parts.length ≤ 4194304:=fun p hp=>by
 obtain ⟨j,hj,e⟩:=List.mem_iff_getElem.1 hp
 obtain ⟨_,_,q,_,_,_,_,hq,_,_,_,_,h5⟩:=h.get hj
 rw [List.getElem?_eq_getElem hj,e] at hq
 cases hq
 exact h5.len
end Go.Proofs.YthopphabeddnfaaGreatDoor
set_option linter.unusedVariables false
set_option linter.unusedSimpArgs false
namespace Go.Proofs.YthopphabeddnfaaGreatDoor
open Go Go.RowKit Sy

set_option maxHeartbeats 2000000 in
theorem llen_c (b : Pat) (hs : List Pat) (A : Option Addr) (c : Nat) (HA : Option Addr) (hc : Nat) (w : World) (hb : StrsR w A b.parts) (hh : PatsR w HA hs) :
  Calls Tryz.prog 46 #[.agg #[.slice A b.parts.length c,.bool b.rest],.slice HA hs.length hc] w fun e w'=>e = .returned (.int .i64 (leastLen b hs)) ∧ Calm w w':=by
 have hlen:=hb.len
 have hhl:=hh.len
 have hls:=hh.lens
 have hbd:=lastTo_bound (b:=b) (hs:=hs) hlen hls
 obtain ⟨m,hm⟩ : ∃ m,b.parts.length = m:=⟨_,rfl⟩
 obtain ⟨hn,hhn⟩ : ∃ hn,hs.length = hn:=⟨_,rfl⟩
 rw [hm] at hlen hbd
 rw [hhn] at hhl
 obtain ⟨w1,hw1⟩ : ∃ w1,w1 = w.alloc (.cells #[.slice A m c,.bool b.rest] 37):=⟨_,rfl⟩
 have hc1 : Calm w w1:=by rw [hw1];exact (Calm.refl w).alloc _
 have hs1 : w.heap.size < w1.heap.size:=by rw [hw1];simp
 have k0 : w1.cell? ⟨w.heap.size,0,none⟩ = some (.slice A m c):=by rw [hw1];simp
 have k1 : w1.cell? ⟨w.heap.size,1,none⟩ = some (.bool b.rest):=by rw [hw1];simp
 have HC:=Lib.hid hc1
 have HW:=Lib.hid hw1
 have HM:=Lib.hid hm
 have Hhn:=Lib.hid hhn
 have HK : Hid (w.heap.size < w1.heap.size ∧ w1.cell? ⟨w.heap.size,0,none⟩ = some (.slice A b.parts.length c) ∧ w1.cell? ⟨w.heap.size,1,none⟩ = some (.bool b.rest)):=⟨hs1,by rw [hm];exact k0,k1⟩
 have e0 : ∀ p : CalmTo w1,p.w.cell? ⟨w.heap.size,0,none⟩ = some (.slice A m c):=fun p=>p.cell k0 hs1
 have HB:=Lib.hid (hb.calm hc1)
 have HH:=Lib.hid (hh.calm hc1)
 have HBd:=Lib.hid hbd
 rw [hm,hhn]
 obtain ⟨re,hre⟩ : ∃ re,b.rest = re:=⟨_,rfl⟩
 have HRe:=Lib.hid hre
 have hre1:=k1
 rw [hre] at hre1 hw1 ⊢
 have HW:=Lib.hid hw1
 have HRe1:=Lib.hid (And.intro hre1 hs1)
 clear hb hh hm hhn hw1 hc1 hs1 k0 k1 hls hbd hre hre1
 go_enter Tryz.func46,Tryz.ntmps46
 go_wp2_with fail
 rw [← HW.out]
 refine wp_region_calm (by kernel_rfl) (by kernel_rfl) ?_
 repeat (go_big_quiet_step (fail))
 refine wpQuiet_nil ?_
 intro w2 hcw2
 have d1:=hcw2.at_ HRe1.out.1 HRe1.out.2
 have HC2:=Lib.hid hcw2
 clear hcw2 e0
 cases re with
 |false=>
  have HCX:=HC2
  have hle : m ≤ m + 1 ∧ leastLen b hs = seek b hs m (m + 1 - m):=by
   refine ⟨by omega,?_⟩
   unfold leastLen firstLen lastLen
   rw [HRe.out,if_neg (by simp),if_neg (by simp),HM.out]
  go_wp2_with fail
  have HLe:=Lib.hid hle
  clear hle
  go_loopg [9] (m + 1 - m) (fun gg q wr=>∃ (B n : Nat),q = .pointer (some ⟨B,0,none⟩) ∧ n ≤ m + 1 ∧ gg = m + 1 - n ∧ w1.heap.size ≤ B ∧ B < wr.heap.size ∧ wr.cell? ⟨B,0,none⟩ = some (.int .i64 n) ∧ Hid (leastLen b hs = seek b hs n (m + 1 - n)) ∧ Hid (Calm w1 wr))
  case atStart=>exact ⟨_,m,rfl,HLe.out.1,rfl,HCX.out.size,by simp,by simp,HLe.out.2,HCX.out.alloc _⟩
  case round=>
   obtain ⟨B,n,rfl,hn1,hgg,hB1,hB2,hcn,HSk,HCr⟩:=hrel
   have HG:=Lib.hid hgg
   clear hgg
   by_cases hnl : n ≤ m
   ·have hnl2 : n ≤ 4200000:=by omega
    have hany:=pany_c 70 #[.pointer (some ⟨B,0,none⟩),.pointer (some ⟨w.heap.size,0,none⟩)] (enters_of Tryz.func70 (by kernel_rfl) rfl) (fun h=>reaches h n && covers h b 0 n) hs HA hc wr (HH.out.calm HCr.out)
     (lcl_pred b n A c wr B w.heap.size hnl2 hB2 (Nat.lt_of_lt_of_le HK.out.1 HCr.out.size) hcn (HCr.out.at_ HK.out.2.1 HK.out.1) (HCr.out.at_ HK.out.2.2 HK.out.1) (HB.out.calm HCr.out))
    rw [Hhn.out] at hany
    have hfe : hs.any (fun h=>reaches h n && covers h b 0 n) = full b hs n:=rfl
    rw [hfe] at hany
    clear hfe
    obtain ⟨r,hr⟩ : ∃ r,full b hs n = r:=⟨_,rfl⟩
    rw [hr] at hany
    have HR:=Lib.hid hr
    clear hr
    cases r with
    |true=>
     go_wp2_with (go_at_call 52;refine hany.mono ?_;rintro e w3 ⟨rfl,hc3⟩;have hcn3:=hc3.at_ hcn hB2)
     go_roundg (m + 1 - (n + 1))
     case measure=>have:=HG.out;omega
     case rel=>exact ⟨_,n + 1,rfl,by omega,rfl,Nat.le_trans hB1 (Nat.le_trans (Nat.le_of_lt hB2) hc3.size),by simp,by simp,(by show leastLen b hs = _;rw [HSk.out,seek_go HR.out (by omega)];congr 1),(HCr.out.trans hc3).alloc _⟩
    |false=>
     go_wp2_with (go_at_call 52;refine hany.mono ?_;rintro e w3 ⟨rfl,hc3⟩;have hcn3:=hc3.at_ hcn hB2)
     go_ret
     exact ⟨ret_int (by rw [HSk.out,seek_stop HR.out (by omega)]),HC.out.trans (HCr.out.trans hc3)⟩
   ·have hz : Hid (leastLen b hs = 0):=by
     show leastLen b hs = 0
     rw [HSk.out,show m + 1 - n = 0 by omega]
     rfl
    clear HSk HG
    go_wp2
    go_ret
    exact ⟨ret_int (by rw [hz.out];rfl),HC.out.trans HCr.out⟩
 |true=>
  go_wp2_with fail
  go_loopw [6,24] (fun t q wr=>∃ k : Nat,k ≤ hn ∧ q = .int .i64 k ∧ t = .int .i64 (lastTo b hs k : Nat) ∧ Hid (Calm w1 wr)) (fun _ q _=>hn - (intOf q).toNat)
  case atStart=>exact ⟨0,Nat.zero_le _,rfl,congrArg (Value.int .i64) (by simp [lastTo,HM.out]),HC2.out⟩
  case round=>
   obtain ⟨k,hk,rfl,rfl,HCr⟩:=hrel
   have hbk:=(HBd.out k).1
   by_cases hlt : k < hn
   ·obtain ⟨bb,o,p,Ak,ck,rfl,_,hpk,h1,h2,h3,h4,h5⟩:=(HH.out.calm HCr.out).get (k:=k) (by rw [Hhn.out];exact hlt)
    have hpl:=h5.len
    have hst:=lastTo_succ (b:=b) hpk
    obtain ⟨T,hT⟩ : ∃ T,lastTo b hs k = T:=⟨_,rfl⟩
    rw [hT] at hst hbk ⊢
    have HST:=Lib.hid hst
    have HT:=Lib.hid hT
    have HPK:=Lib.hid hpk
    clear hst h5 hT hpk
    go_wp2
    go_roundw
    case rel=>exact ⟨k + 1,by omega,by go_num,congrArg (Value.int .i64) (by rw [HST.out];omega),HCr.out.alloc _⟩
    case measure=>simp [intOf];omega
   ·have HCX:=HCr
    obtain ⟨L,hL⟩ : ∃ L,lastTo b hs k = L:=⟨_,rfl⟩
    have hL16 : L ≤ 4194305:=by omega
    have hml : m + 1 ≤ L:=by have:=(HBd.out k).2;omega
    have hle : m + 1 ≤ L + 1 ∧ leastLen b hs = seek b hs (m + 1) (L + 1 - (m + 1)):=by
     refine ⟨by omega,?_⟩
     have hk2 : k = hs.length:=by rw [Hhn.out];omega
     have hl2 : lastLen b hs = L:=by
      rw [lastLen,if_pos HRe.out,← hL,lastTo,hk2,List.take_length]
     have hf2 : firstLen b = m + 1:=by rw [firstLen,if_pos HRe.out,HM.out]
     rw [leastLen,hl2,hf2]
    rw [hL]
    clear hL hbk
    go_wp2_with fail
    have HLe:=Lib.hid hle
    clear hle
    go_loopg [9] (L + 1 - (m + 1)) (fun gg q wr=>∃ (B n : Nat),q = .pointer (some ⟨B,0,none⟩) ∧ n ≤ L + 1 ∧ gg = L + 1 - n ∧ w1.heap.size ≤ B ∧ B < wr.heap.size ∧ wr.cell? ⟨B,0,none⟩ = some (.int .i64 n) ∧ Hid (leastLen b hs = seek b hs n (L + 1 - n)) ∧ Hid (Calm w1 wr))
    case atStart=>exact ⟨_,(m + 1),rfl,HLe.out.1,rfl,HCX.out.size,by simp,by simp,HLe.out.2,HCX.out.alloc _⟩
    case round=>
     obtain ⟨B,n,rfl,hn1,hgg,hB1,hB2,hcn,HSk,HCr⟩:=hrel
     have HG:=Lib.hid hgg
     clear hgg
     by_cases hnl : n ≤ L
     ·have hnl2 : n ≤ 4200000:=by omega
      have hany:=pany_c 70 #[.pointer (some ⟨B,0,none⟩),.pointer (some ⟨w.heap.size,0,none⟩)] (enters_of Tryz.func70 (by kernel_rfl) rfl) (fun h=>reaches h n && covers h b 0 n) hs HA hc wr (HH.out.calm HCr.out)
       (lcl_pred b n A c wr B w.heap.size hnl2 hB2 (Nat.lt_of_lt_of_le HK.out.1 HCr.out.size) hcn (HCr.out.at_ HK.out.2.1 HK.out.1) (HCr.out.at_ HK.out.2.2 HK.out.1) (HB.out.calm HCr.out))
      rw [Hhn.out] at hany
      have hfe : hs.any (fun h=>reaches h n && covers h b 0 n) = full b hs n:=rfl
      rw [hfe] at hany
      clear hfe
      obtain ⟨r,hr⟩ : ∃ r,full b hs n = r:=⟨_,rfl⟩
      rw [hr] at hany
      have HR:=Lib.hid hr
      clear hr
      cases r with
      |true=>
       go_wp2_with (go_at_call 52;refine hany.mono ?_;rintro e w3 ⟨rfl,hc3⟩;have hcn3:=hc3.at_ hcn hB2)
       go_roundg (L + 1 - (n + 1))
       case measure=>have:=HG.out;omega
       case rel=>exact ⟨_,n + 1,rfl,by omega,rfl,Nat.le_trans hB1 (Nat.le_trans (Nat.le_of_lt hB2) hc3.size),by simp,by simp,(by show leastLen b hs = _;rw [HSk.out,seek_go HR.out (by omega)];congr 1),(HCr.out.trans hc3).alloc _⟩
      |false=>
       go_wp2_with (go_at_call 52;refine hany.mono ?_;rintro e w3 ⟨rfl,hc3⟩;have hcn3:=hc3.at_ hcn hB2)
       go_ret
       exact ⟨ret_int (by rw [HSk.out,seek_stop HR.out (by omega)]),HC.out.trans (HCr.out.trans hc3)⟩
     ·have hz : Hid (leastLen b hs = 0):=by
       show leastLen b hs = 0
       rw [HSk.out,show L + 1 - n = 0 by omega]
       rfl
      clear HSk HG
      go_wp2
      go_ret
      exact ⟨ret_int (by rw [hz.out];rfl),HC.out.trans HCr.out⟩
end Go.Proofs.YthopphabeddnfaaGreatDoor
set_option linter.unusedVariables false
set_option linter.unusedSimpArgs false
namespace Go.Proofs.YthopphabeddnfaaGreatDoor
open Go Go.RowKit Sy

theorem llen_v (b : Pat) (hs : List Pat) (n : Nat) (A : Option Addr) (c : Nat) (HA : Option Addr) (hc : Nat) (w : World) (hv : leastLen b hs = n) (hb : StrsR w A b.parts) (hh : PatsR w HA hs) :
  Calls Tryz.prog 46 #[.agg #[.slice A b.parts.length c,.bool b.rest],.slice HA hs.length hc] w fun e w'=>e = .returned (.int .i64 n) ∧ Calm w w':=hv ▸ llen_c b hs A c HA hc w hb hh
def void (b : Pat) (hs : List Pat) : Bool:=leastLen b hs == 0
set_option maxHeartbeats 400000 in
theorem void_c (b : Pat) (hs : List Pat) (A : Option Addr) (c : Nat) (HA : Option Addr) (hc : Nat) (w : World) (hb : StrsR w A b.parts) (hh : PatsR w HA hs) :
  Calls Tryz.prog 16 #[.agg #[.slice A b.parts.length c,.bool b.rest],.slice HA hs.length hc] w fun e w'=>e = .returned (.bool (void b hs)) ∧ Calm w w':=by
 obtain ⟨n,hn⟩ : ∃ n,leastLen b hs = n:=⟨_,rfl⟩
 obtain ⟨w1,hw1⟩ : ∃ w1,w1 = w.alloc (.cells #[.slice A b.parts.length c,.bool b.rest] 37):=⟨_,rfl⟩
 have hc1 : Calm w w1:=by rw [hw1];exact (Calm.refl w).alloc _
 have hcall:=llen_v b hs n A c HA hc w1 hn (hb.calm hc1) (hh.calm hc1)
 have hv : Hid (void b hs = ((n : Int) == 0)):=by
  show void b hs = _
  rw [void,hn,Bool.eq_iff_iff]
  simp
 have HW:=Lib.hid hw1
 have HC:=Lib.hid hc1
 clear hn hw1 hc1 hb hh
 go_enter Tryz.func16,Tryz.ntmps16
 go_wp2_with (go_at_call 46;rw [← HW.out];refine hcall.mono ?_;rintro e w2 ⟨rfl,hc2⟩)
 go_ret
 exact ⟨ret_bool (by rw [hv.out]),HC.out.trans hc2⟩

end Go.Proofs.YthopphabeddnfaaGreatDoor
