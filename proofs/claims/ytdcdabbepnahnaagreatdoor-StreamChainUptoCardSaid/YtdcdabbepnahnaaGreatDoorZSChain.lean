/- The law on the mappings of two steps, composed, answers true for every input of at most 1048576 values and letters and leaves its arguments as they were. The two listed tables hold what the library lays. -/
import Derived.Deep.RegionHeld3
import Derived.Test.YtdcdabbepnahnaaGreatDoorProg
import Derived.ProofKit
import Derived.OpenShut
import Derived.SizedLaws
import Derived.Deep.Strs
import Derived.Deep.Slices
import Derived.ChangeSame
import Derived.Test.YtdcdabbepnahnaaGreatDoorRows
import Derived.Test.YtdcdabbepnahnaaGreatDoorCards
import Derived.Test.YtdcdabbepnahnaaGreatDoorTie
import Derived.WalkKit
import Derived.Deep.DeepHandedRow
import Derived.Carry
import Derived.Lib.LaidTab
import GoSem.PinnedTables
import Derived.Test.YtdcdabbepnahnaaGreatDoorZCommonP
import Derived.Test.YtdcdabbepnahnaaGreatDoorZRegB
import Derived.Test.YtdcdabbepnahnaaGreatDoorZMapA
import Derived.Test.YtdcdabbepnahnaaGreatDoorZRed3W
import Derived.Test.YtdcdabbepnahnaaGreatDoorZOutM
import Derived.Test.YtdcdabbepnahnaaGreatDoorZComK
import Derived.Test.YtdcdabbepnahnaaGreatDoorZLawS5
import Derived.Test.YtdcdabbepnahnaaGreatDoorZCompL
import Derived.Test.YtdcdabbepnahnaaGreatDoorZFwdL2
import Derived.Test.YtdcdabbepnahnaaGreatDoorZOwn
import Derived.Test.YtdcdabbepnahnaaGreatDoorZEntM
import Derived.Test.YtdcdabbepnahnaaGreatDoorZStrMem
set_option linter.unusedVariables false
set_option linter.unusedSimpArgs false
namespace Go.Proofs.YtdcdabbepnahnaaGreatDoor
open Go Go.RowKit Sy

theorem results_cell_tmpsM {fn : Func} {p q r : Tmp} {ty : TypeId} (h : fn.results = #[.cell p ty,.tmp q,.tmp r]) (tmps : Array Value) (P : Program) (w : World) :
  (results fn tmps).run P w = ((asAddr (tmps.getD p undef)).run P w).andThen fun a w₁=>((loadVar ty a).run P w₁).andThen fun v w₂=>.ok (.tuple #[v,tmps.getD q undef,tmps.getD r undef]) w₂:=by
 simp only [results,h]
 simp [Sem.run_bind,Result.andThen]
set_option maxHeartbeats 8000000 in
theorem mreduce_far (b : Pat) (ps : List Pat) (A : Option Addr) (c : Nat) (PA : Option Addr) (n N pc gm : Nat) (re : Bool) (w : World) (hb : PatA w A c b) (hps : PatsR w PA ps) (hn : b.parts.length = n) (hre : b.rest = re) (hN : ps.length = N) (gb : patErr b = 0) (gp : ∀ p ∈ ps,patErr p = 0) (hgm : (redL b ps).length = gm) (h64 : 64 < gm) :
  Calls Tryz.prog 86 #[.agg #[.slice A n c,.bool re],.slice PA N pc] w fun e w'=>e = .returned (.tuple #[.agg #[.slice none 0 0,.bool false,.slice none 0 0],.bool false,.int .i64 72]) ∧ Calm w w':=by
 obtain ⟨w1,hw1⟩ : ∃ w1,w1 = (w.alloc (.cells #[.slice A n c,.bool re] 51)).alloc (.cells #[.slice none 0 0,.bool false,.slice none 0 0] 67):=⟨_,rfl⟩
 have hc1 : Calm w w1:=by rw [hw1];exact ((Calm.refl w).alloc _).alloc _
 have hz : ThreeB w1 (w.heap.size + 1) (.slice none 0 0) (.bool false) (.slice none 0 0):=by
  rw [hw1]
  have:=ThreeB.new (w.alloc (.cells #[.slice A n c,.bool re] 51)) (.slice none 0 0) (.bool false) (.slice none 0 0) 67
  simpa using this
 have hN2 : gm ≤ N:=by rw [← hgm,← hN];exact redL_len _ _
 have KR : Hid (∀ W,Calm w1 W → Calls Tryz.prog 89 #[.agg #[.slice A n c,.bool re],.slice PA N pc] W fun e w'=>(∃ A2 c2 HA2 hc2,e = .returned (.agg #[.slice A2 n c2,.bool re,.slice HA2 gm hc2])) ∧ Calm W w'):=fun W hW=>by
  have:=reduce_c b ps A c PA N pc W (hb.calm (hc1.trans hW)) (hps.calm (hc1.trans hW)) hN gb gp
  unfold RedEnd at this
  rw [hn,hre,hgm] at this
  exact this.mono fun e w' ⟨⟨A2,c2,HA2,hc2,h1,_,_⟩,h2⟩=>⟨⟨A2,c2,HA2,hc2,h1⟩,h2⟩
 have HW:=Lib.hid hw1
 have HC:=Lib.hid hc1
 have HZ:=Lib.hid hz
 have hgi : (64 : Int) < (gm : Int):=by omega
 clear hw1 hc1 hz hb hps hn hre hN gb gp hgm
 go_enter Tryz.func86,Tryz.ntmps86
 go_wp2_with fail
 rw [← HW.out]
 refine (KR.out w1 (Calm.refl _)).mono ?_
 rintro e w3 ⟨⟨A2,c2,HA2,hc2,rfl⟩,hc3⟩
 have h3:=HZ.out.calm hc3
 have z0:=h3.c0
 have z1:=h3.c1
 have z2:=h3.c2
 have f0:=h3.fz 0
 have f1:=h3.fz 1
 have f2:=h3.fz 2
 have hlt:=h3.lt
 go_wp2_with fail
 refine bodyPost_ret (v:=.tuple #[.agg #[.slice none 0 0,.bool false,.slice none 0 0],.bool false,.int .i64 72]) ?_ rfl ⟨rfl,by first | exact (calm3' (HC.out.trans hc3) (by omega) _ _ _).alloc _ | exact calm3' ((HC.out.trans hc3).alloc _) (by omega) _ _ _⟩
 rw [results_cell_tmpsM rfl]
 go_simp
end Go.Proofs.YtdcdabbepnahnaaGreatDoor
set_option linter.unusedVariables false
set_option linter.unusedSimpArgs false
namespace Go.Proofs.YtdcdabbepnahnaaGreatDoor
open Go Go.RowKit Sy

set_option maxHeartbeats 8000000 in
theorem mreduce_near (b : Pat) (ps : List Pat) (A : Option Addr) (c : Nat) (PA : Option Addr) (n N pc gm : Nat) (re vz : Bool) (w : World) (hb : PatA w A c b) (hps : PatsR w PA ps) (hn : b.parts.length = n) (hre : b.rest = re) (hN : ps.length = N) (gb : patErr b = 0) (gp : ∀ p ∈ ps,patErr p = 0) (hgm : (redL b ps).length = gm) (h64 : ¬ 64 < gm) (hvz : (leastLen b (redL b ps) == 0) = vz) :
  Calls Tryz.prog 86 #[.agg #[.slice A n c,.bool re],.slice PA N pc] w fun e w'=>(∃ A2 c2 HA2 hc2,e = .returned (.tuple #[.agg #[.slice A2 n c2,.bool re,.slice HA2 gm hc2],.bool (!vz),.int .i64 0]) ∧ NewS w' w.heap.size A2 c2 b.parts ∧ PatsN w' w.heap.size HA2 hc2 (redL b ps)) ∧ Calm w w':=by
 obtain ⟨w1,hw1⟩ : ∃ w1,w1 = (w.alloc (.cells #[.slice A n c,.bool re] 51)).alloc (.cells #[.slice none 0 0,.bool false,.slice none 0 0] 67):=⟨_,rfl⟩
 have hc1 : Calm w w1:=by rw [hw1];exact ((Calm.refl w).alloc _).alloc _
 obtain ⟨R,hR⟩ : ∃ R,w.heap.size + 1 = R:=⟨_,rfl⟩
 have hz : RgB w1 R (.slice none 0 0) (.bool false) (.slice none 0 0):=by
  rw [hw1,← hR]
  have:=RgB.new (w.alloc (.cells #[.slice A n c,.bool re] 51)) (.slice none 0 0) (.bool false) (.slice none 0 0)
  simpa using this
 have hRw : w.heap.size ≤ R:=by omega
 have hR1 : w1.heap.size = R + 1:=by rw [hw1,← hR];simp [go_sem]
 have KR : Hid (∀ W,Calm w1 W → Calls Tryz.prog 89 #[.agg #[.slice A n c,.bool re],.slice PA N pc] W fun e w'=>(∃ A2 c2 HA2 hc2,e = .returned (.agg #[.slice A2 n c2,.bool re,.slice HA2 gm hc2]) ∧ NewS w' W.heap.size A2 c2 b.parts ∧ PatsN w' W.heap.size HA2 hc2 (redL b ps)) ∧ Calm W w'):=fun W hW=>by
  have:=reduce_c b ps A c PA N pc W (hb.calm (hc1.trans hW)) (hps.calm (hc1.trans hW)) hN gb gp
  unfold RedEnd at this
  rw [hn,hre,hgm] at this
  exact this
 have KV : Hid (∀ W A2 c2 HA2 hc2,NewS W (R + 1) A2 c2 b.parts → PatsN W (R + 1) HA2 hc2 (redL b ps) → Calls Tryz.prog 76 #[.agg #[.slice A2 n c2,.bool re],.slice HA2 gm hc2] W fun e w'=>e = .returned (.bool vz) ∧ Calm W w'):=fun W A2 c2 HA2 hc2 h1 h2=>
  voidp_c b (redL b ps) vz n gm re A2 c2 HA2 hc2 W (h1.u.toR hb.r.len hb.r.each) (h2.reads (by omega)) hvz hn hgm hre
 have HW:=Lib.hid hw1
 have HC:=Lib.hid hc1
 have HZ:=Lib.hid hz
 have HR:=Lib.hid hR
 have HR1:=Lib.hid hR1
 obtain ⟨gs,hgs⟩ : ∃ gs,redL b ps = gs:=⟨_,rfl⟩
 rw [hgs] at KR KV ⊢
 obtain ⟨bp,hbp⟩ : ∃ bp,b.parts = bp:=⟨_,rfl⟩
 rw [hbp] at KR KV ⊢
 have hgi : ¬ (64 : Int) < (gm : Int):=by omega
 clear hw1 hc1 hz hb hps hn hre hN gb gp hgm hR hR1 hvz hgs hbp
 go_enter Tryz.func86,Tryz.ntmps86
 go_wp2_with fail
 rw [← HW.out,HR.out]
 refine (KR.out w1 (Calm.refl _)).mono ?_
 rintro e w3 ⟨⟨A2,c2,HA2,hc2,rfl,hS3,hP3⟩,hc3⟩
 obtain ⟨w4,hw4⟩ : ∃ w4,w4 = w3.alloc (.cells #[.slice A2 n c2,.bool re,.slice HA2 gm hc2] 67):=⟨_,rfl⟩
 have hc34 : Calm w3 w4:=by
  show Below _ _ _
  rw [hw4]
  exact (Calm.refl _).alloc _
 obtain ⟨G,hG⟩ : ∃ G,w3.heap.size = G:=⟨_,rfl⟩
 have hg4 : RgB w4 G (.slice A2 n c2) (.bool re) (.slice HA2 gm hc2):=by rw [hw4,← hG];exact RgB.new w3 _ _ _
 have hRG : R < G:=by have:=hc3.size;have:=HR1.out;omega
 have hS4 : Hid (NewS w4 (R + 1) A2 c2 bp):=(HR1.out ▸ hS3).calm hc34
 have hP4 : Hid (PatsN w4 (R + 1) HA2 hc2 gs):=(HR1.out ▸ hP3).calm hc34
 have HC4 : Hid (Calm w w4):=HC.out.trans (Calm.trans hc3 hc34)
 have HZ4 : Hid (RgB w4 R (.slice none 0 0) (.bool false) (.slice none 0 0)):=HZ.out.calm (Calm.trans hc3 hc34)
 have HG4:=Lib.hid hg4
 have HW4:=Lib.hid hw4
 have HGs:=Lib.hid hG
 have g0:=hg4.c0
 have g1:=hg4.c1
 have g2:=hg4.c2
 have z0:=HZ4.out.c0
 have z1:=HZ4.out.c1
 have z2:=HZ4.out.c2
 have f0:=HZ4.out.f 0
 have f1:=HZ4.out.f 1
 have f2:=HZ4.out.f 2
 have hne : ¬ G = R:=by omega
 have hne2 : ¬ R = G:=by omega
 clear hS3 hP3 hc3 hc34 hg4 hw4 hG
 go_wp2_with fail
 rw [← HW4.out,HGs.out]
 have HK : Hid (∀ W : World,Calm w4 W → W.cell? ⟨G,0,none⟩ = some (.slice A2 n c2) ∧ W.cell? ⟨G,1,none⟩ = some (.bool re) ∧ W.cell? ⟨G,2,none⟩ = some (.slice HA2 gm hc2)):=fun W hW=>⟨(HG4.out.calm hW).c0,(HG4.out.calm hW).c1,(HG4.out.calm hW).c2⟩
 have HSt : Hid (∀ W u0 u1 u2,Calm w4 W → (((W.setCell ⟨R,0,none⟩ u0).setCell ⟨R,1,none⟩ u1).setCell ⟨R,2,none⟩ u2).cell? ⟨G,0,none⟩ = some (.slice A2 n c2) ∧ (((W.setCell ⟨R,0,none⟩ u0).setCell ⟨R,1,none⟩ u1).setCell ⟨R,2,none⟩ u2).cell? ⟨G,1,none⟩ = some (.bool re) ∧ (((W.setCell ⟨R,0,none⟩ u0).setCell ⟨R,1,none⟩ u1).setCell ⟨R,2,none⟩ u2).cell? ⟨G,2,none⟩ = some (.slice HA2 gm hc2)):=fun W u0 u1 u2 hW=>by
  have h : RgB (((W.setCell ⟨R,0,none⟩ u0).setCell ⟨R,1,none⟩ u1).setCell ⟨R,2,none⟩ u2) G (.slice A2 n c2) (.bool re) (.slice HA2 gm hc2):=(HG4.out.calm hW).block (by simp [World.setCell,Array.getElem?_modify,hne,hne2])
  exact ⟨h.c0,h.c1,h.c2⟩
 have KV2 : Hid (∀ W,Calm w4 W → Calls Tryz.prog 76 #[.agg #[.slice A2 n c2,.bool re],.slice HA2 gm hc2] W fun e w'=>e = .returned (.bool vz) ∧ Calm w4 w'):=fun W hW=>(KV.out W _ _ _ _ (hS4.out.calm hW) (hP4.out.calm hW)).mono fun e w' ⟨h1,h2⟩=>⟨h1,hW.trans h2⟩
 have HEnd : Hid (∀ W u0 u1 u2,Calm w4 W → NewS (((W.setCell ⟨R,0,none⟩ u0).setCell ⟨R,1,none⟩ u1).setCell ⟨R,2,none⟩ u2) w.heap.size A2 c2 bp ∧ PatsN (((W.setCell ⟨R,0,none⟩ u0).setCell ⟨R,1,none⟩ u1).setCell ⟨R,2,none⟩ u2) w.heap.size HA2 hc2 gs ∧ Calm w (((W.setCell ⟨R,0,none⟩ u0).setCell ⟨R,1,none⟩ u1).setCell ⟨R,2,none⟩ u2)):=fun W u0 u1 u2 hW=>
  ⟨((hS4.out.calm hW).set3 (Nat.lt_succ_self R) _ _ _).mono (by omega),((hP4.out.calm hW).set3 (Nat.lt_succ_self R) _ _ _).mono (by omega),calm3' (HC4.out.trans hW) hRw _ _ _⟩
 go_region_held3 (fun W=>W.cell? ⟨G,0,none⟩ = some (.slice A2 n c2) ∧ W.cell? ⟨G,1,none⟩ = some (.bool re) ∧ W.cell? ⟨G,2,none⟩ = some (.slice HA2 gm hc2))
  (first
   |with_reducible exact HSt.out _ _ _ _ hc48
   |with_reducible exact HK.out _ hc48
   |with_reducible exact HK.out _ (Calm.refl _)
   |with_reducible exact HK.out _ (Below.drew (Calm.refl _))
   |go_keep)
  (first
   |(go_at_call 76;(first | refine (KV2.out _ (Below.drew (Calm.refl _))).mono ?_ | refine (KV2.out _ (Calm.refl _)).mono ?_);rintro e w8 ⟨rfl,hc48⟩;have hz8:=HZ4.out.calm hc48;have z0:=hz8.c0;have z1:=hz8.c1;have z2:=hz8.c2;have f0:=hz8.f 0;have f1:=hz8.f 1;have f2:=hz8.f 2))
 have HE:=Lib.hid (HEnd.out w8 (.slice A2 n c2) (.bool re) (.slice HA2 gm hc2) hc48)
 go_wp2_with fail
 refine bodyPost_ret (v:=.tuple #[.agg #[.slice A2 n c2,.bool re,.slice HA2 gm hc2],.bool (!vz),.int .i64 0]) ?_ rfl ⟨⟨A2,c2,HA2,hc2,rfl,HE.out.1,HE.out.2.1⟩,HE.out.2.2⟩
 rw [results_cell_tmpsM rfl]
 go_simp
end Go.Proofs.YtdcdabbepnahnaaGreatDoor
set_option linter.unusedVariables false
set_option linter.unusedSimpArgs false
namespace Go.Proofs.YtdcdabbepnahnaaGreatDoor
open Go Go.RowKit Sy

theorem mreduce_c (b : Pat) (ps : List Pat) (A : Option Addr) (c : Nat) (PA : Option Addr) (n N pc : Nat) (re : Bool) (w : World) (hb : PatA w A c b) (hps : PatsR w PA ps) (hn : b.parts.length = n) (hre : b.rest = re) (hN : ps.length = N) (gb : patErr b = 0) (gp : ∀ p ∈ ps,patErr p = 0) :
  Calls Tryz.prog 86 #[.agg #[.slice A n c,.bool re],.slice PA N pc] w fun e w'=>RdEnd b ps w.heap.size e w' ∧ Calm w w':=by
 unfold RdEnd
 by_cases h64 : 64 < (redL b ps).length
 ·refine (mreduce_far b ps A c PA n N pc _ re w hb hps hn hre hN gb gp rfl h64).mono ?_
  rintro e w' ⟨h1,h2⟩
  rw [if_pos h64]
  exact ⟨h1,h2⟩
 ·refine (mreduce_near b ps A c PA n N pc _ re _ w hb hps hn hre hN gb gp rfl h64 rfl).mono ?_
  rintro e w' ⟨⟨A2,c2,HA2,hc2,h1,h2,h3⟩,h4⟩
  rw [if_neg h64]
  subst hn hre
  exact ⟨⟨A2,c2,HA2,hc2,h1,h2,h3⟩,h4⟩
end Go.Proofs.YtdcdabbepnahnaaGreatDoor
set_option linter.unusedVariables false
set_option linter.unusedSimpArgs false
namespace Go.Proofs.YtdcdabbepnahnaaGreatDoor
open Go Go.RowKit Sy

theorem redK : RedK:=fun b ps A1 c1 PA nl N pc lr W hA hP h1 h2 h3 hb hg=>mreduce_c b ps A1 c1 PA nl N pc lr W hA hP h1 h2 h3 hb hg
theorem mcom_c (es fs : List Ent) (n c n2 c2 : Nat) (A A2 : Option Addr) (w : World) (h : EntsA w A es) (hcn : n ≤ c) (hcc : c ≤ 9223372036854775807) (hn : es.length = n) (hs : ∀ x ∈ es,SmallE x) (h2 : EntsA w A2 fs) (hcn2 : n2 ≤ c2) (hcc2 : c2 ≤ 9223372036854775807) (hn2 : fs.length = n2) (hs2 : ∀ x ∈ fs,SmallE x) :
  Calls Tryz.prog 21 #[.slice A n c,.slice A2 n2 c2] w fun e w'=>EntOut (comE es fs).1 (comE es fs).2 w.heap.size e w' ∧ Calm w w':=mcom_k es fs n c n2 c2 A A2 w h hcn hcc hn hs h2 hcn2 hcc2 hn2 hs2 redK
end Go.Proofs.YtdcdabbepnahnaaGreatDoor
set_option linter.unusedVariables false
set_option linter.unusedSimpArgs false
namespace Go.Proofs.YtdcdabbepnahnaaGreatDoor
open Go Go.RowKit Sy

theorem bet_80 {ss : List Strm} (h : Sy.Good ss) (hz : StrmsZ ss) {i : Nat} (hi : i < ss.length) {es : List Ent} (hv : betI ss i = some es) : ∀ e ∈ es,SizeE 80 e:=by
 unfold betI at hv
 rcases hps : pcs ss i with _ | ps
 ·rw [hps] at hv
  cases hv
 ·rw [hps] at hv
  simp only at hv
  have hm:=pcs_mean h i hi ps hps
  obtain ⟨js,a1,a2,a3⟩:=betP_at hv
  have hpl:=parent_len h hi
  intro x hx
  obtain ⟨k,hk,ex⟩:=List.mem_iff_getElem.1 hx
  have hk' : k < js.length:=by rw [a1];exact hk
  obtain ⟨q,e,hq,_,he,hxe⟩:=a3 k _ _ (List.getElem?_eq_getElem hk') (List.getElem?_eq_getElem hk)
  rw [ex] at hxe
  have ok:=hm.ok q (List.mem_of_getElem? hq)
  have oz:=pcs_z h hz i hi ps hps q (List.mem_of_getElem? hq)
  have hs:=entOfP_z ok oz he
  rw [hxe]
  refine ⟨hs.lp,hs.ls,?_,fun y hy=>?_,hs.h⟩
  ·show (q.region.b.parts.set 0 _).length ≤ 300
   rw [List.length_set]
   exact pat_few (gErr_zero ok.g).1
  ·have:=stored_let oz.b (n:=(strm ss i).parent) (by omega) y hy
   omega
theorem comE_few (es fs : List Ent) : (comE es fs).1.length ≤ 32:=by
 unfold comE
 split
 ·exact Nat.zero_le _
 ·split
  ·exact Nat.zero_le _
  ·split
   ·exact Nat.zero_le _
   ·split
    ·exact Nat.zero_le _
    ·rename_i h
     exact Nat.le_of_not_lt h
theorem comE_160 {a b : List Ent} (ha : ∀ x ∈ a,SizeE 80 x) (hb : ∀ x ∈ b,SizeE 80 x) : ∀ x ∈ (comE a b).1,SmallE x:=by
 by_cases h : (comE a b).2 = 0
 ·obtain ⟨h1,h2,h3⟩:=comE_ok h
  exact fun x hx=>(com_size (K:=80) (by decide) ha hb (mapE_zero h1).1 (mapE_zero h2).1 h3 x hx).mono (by decide)
 ·have : (comE a b).1 = []:=by
   unfold comE at h ⊢
   by_cases h1 : (mapE a).2 ≠ 0
   ·rw [if_pos h1]
   ·rw [if_neg h1] at h ⊢
    by_cases h2 : (mapE b).2 ≠ 0
    ·rw [if_pos h2]
    ·rw [if_neg h2] at h ⊢
     rcases hr : comL (pairsL a b) with _ | l
     ·rfl
     ·rw [hr] at h
      simp only at h ⊢
      by_cases h3 : 32 < l.length
      ·rw [if_pos h3]
      ·rw [if_neg h3] at h
       exact absurd rfl h
  rw [this]
  exact fun x hx=>by cases hx
theorem src_len2 {ss : List Strm} (h : Sy.Good ss) (hsm : SmallSS ss) {i : Nat} (hi : i < ss.length) {c : Str} (hc : c.length ≤ 200) : (locI ss i c).2.length ≤ 8000:=by
 by_cases h0 : (locI ss i c).1 = 0
 ·have : (locI ss i c).2 = []:=by
   unfold locI at h0 ⊢
   by_cases hu : underV c = true
   ·rw [if_pos hu] at h0 ⊢
    exact see_zero h hi c h0
   ·rw [if_neg hu]
  rw [this]
  exact Nat.zero_le _
 ·obtain ⟨hu,he⟩:=locI_under h0
  rw [he] at h0 ⊢
  have hn:=(ownErr_zero (h.own i hi)).2.1
  rcases see_src h hi (c:=c) h0 with ⟨_,e1⟩ | ⟨_,j,hj,x,hx,_,_,hf⟩
  ·rw [e1]
   simp only [List.length_append,List.length_cons,List.length_drop]
   omega
  ·exact fwd_len (hsm.at_ (Sy.Good.mem_lt hi hj) x hx) (by omega) hf
theorem above_two {ss : List Strm} (h : Sy.Good ss) {i : Nat} (hi : i < ss.length) (hl : 2 ≤ (ancsOf ss i).length) : ∃ p q,parentI ss i = some p ∧ parentI ss p = some q ∧ ancsOf ss i = (strm ss p).name :: (strm ss q).name :: ancsOf ss q:=by
 rcases hp : parentI ss i with _ | p
 ·unfold ancsOf at hl
  rw [h.none hp] at hl
  simp at hl
 ·rcases hq : parentI ss p with _ | q
  ·unfold ancsOf at hl
   rw [h.some hp,h.none hq] at hl
   simp at hl
  ·refine ⟨p,q,rfl,hq,?_⟩
   unfold ancsOf
   rw [h.some hp,h.some hq]
   rfl

set_option maxRecDepth 100000 in
set_option maxHeartbeats 8000000 in
theorem strChain_c (ss : List Strm) (nm s1 : Str) (A : Option Addr) (n c : Nat) (w : World) (hv : StrmsU w A ss) (hn : ss.length = n) (hnm : nm.length ≤ 1048576) (hl1 : s1.length ≤ 1048576) (hM : MaxL w) :
  Calls Tryz.prog 6 #[.slice A n c,.string (bs nm),.string (bs s1)] w fun e w'=>e = .returned (.bool true) ∧ Calm w w':=by
 obtain ⟨y,hy⟩ : ∃ y,smallS ss = y:=⟨_,rfl⟩
 have hsmall:=smallS_c ss y A n c w hv hn hy
 have hlen:=hv.len
 rw [hn] at hlen
 have hz1:=bs_size s1
 have KA : Hid (∀ W,Calm w W → Calls Tryz.prog 8 #[] W fun e w'=>e = .returned (.bool true) ∧ Calm W w'):=fun W hW=>awakeS_c W (hM.calm hW)
 cases y with
 |false=>
  clear hv hn hM hy
  go_enter Tryz.func6,Tryz.ntmps6
  go_wp2_with (first
   |(go_at_call 7;refine hsmall.mono ?_;rintro e w2 ⟨rfl,hc2⟩)
   |(go_at_call 8;refine (KA.out w2 hc2).mono ?_;rintro e w3 ⟨rfl,hc3⟩))
  go_ret
  exact ⟨rfl,hc2.trans hc3⟩
 |true=>
  obtain ⟨hsm,_⟩:=smallS_small hy
  have hsz:=smallS_z hy
  by_cases h1 : 200 < s1.length
  ·clear hv hn hM hy hsm hsz
   go_enter Tryz.func6,Tryz.ntmps6
   go_wp2_with (first
    |(go_at_call 7;refine hsmall.mono ?_;rintro e w2 ⟨rfl,hc2⟩)
    |(go_at_call 8;refine (KA.out w2 hc2).mono ?_;rintro e w3 ⟨rfl,hc3⟩))
   go_ret
   exact ⟨rfl,hc2.trans hc3⟩
  ·by_cases hx : readyE ss nm = 0
   ·obtain ⟨i,hg,hfi,hi,hE⟩:=locE_ok hx
    obtain ⟨m,hm⟩ : ∃ m,(ancsOf ss i).length = m:=⟨_,rfl⟩
    have hm5 : m ≤ 5:=by
     rw [← hm]
     unfold ancsOf
     rw [List.length_map]
     exact hg.short hi
    have KN : Hid (∀ W,Calm w W → Calls Tryz.prog 18 #[.slice A n c,.string (bs nm)] W fun e w'=>(∃ VA vc,e = .returned (.tuple #[.slice VA m vc,.int .i64 0]) ∧ StrsU w' VA (ancsOf ss i)) ∧ Calm W w'):=fun W hW=>(anc_c ss nm A n c W (hv.calm hW) hn hnm).mono fun e w' ⟨h,hc⟩=>⟨by
     obtain ⟨VA,vc,he,hu,_⟩:=anc_ok hx hfi h
     exact ⟨VA,vc,by rw [he,hm],hu⟩,hc⟩
    by_cases hm2 : m < 2
    ·clear hv hn hM hy hsm hsz hm hE hfi hi hg hx
     go_enter Tryz.func6,Tryz.ntmps6
     go_wp2_with (first
      |(go_at_call 7;refine hsmall.mono ?_;rintro e w2 ⟨rfl,hc2⟩)
      |(go_at_call 18;refine (KN.out w2 hc2).mono ?_;rintro e w3 ⟨⟨VA,vc,rfl,_⟩,hc3⟩)
      |(go_at_call 8;refine (KA.out w3 (hc2.trans hc3)).mono ?_;rintro e w4 ⟨rfl,hc4⟩))
     go_ret
     exact ⟨rfl,(hc2.trans hc3).trans hc4⟩
    ·obtain ⟨p,q,hp,hq,hanc⟩:=above_two hg hi (by rw [hm];omega)
     have hpl:=parentI_lt hp
     have hql:=parentI_lt hq
     obtain ⟨pnm,hpnm⟩ : ∃ pnm,(strm ss p).name = pnm:=⟨_,rfl⟩
     obtain ⟨qnm,hqnm⟩ : ∃ qnm,(strm ss q).name = qnm:=⟨_,rfl⟩
     rw [hpnm,hqnm] at hanc
     have hpn : pnm.length ≤ 1048576:=by have:=(ownErr_zero (hg.own p hpl)).2.1;rw [hpnm] at this;omega
     have hqn : qnm.length ≤ 1048576:=by have:=(ownErr_zero (hg.own q hql)).2.1;rw [hqnm] at this;omega
     have KN2 : Hid (∀ W,Calm w W → Calls Tryz.prog 18 #[.slice A n c,.string (bs nm)] W fun e w'=>(∃ b o vc,e = .returned (.tuple #[.slice (some ⟨b,o,none⟩) m vc,.int .i64 0]) ∧ b < w'.heap.size ∧ w'.cell? ⟨b,o,none⟩ = some (.string (bs pnm)) ∧ w'.cell? ⟨b,o + 1,none⟩ = some (.string (bs qnm))) ∧ Calm W w'):=fun W hW=>(KN.out W hW).mono fun e w' ⟨⟨VA,vc,he,hu⟩,hc⟩=>⟨by
      obtain ⟨b,o,z,rfl,hb,hz,_,hcell⟩:=hu.get (k:=0) (by rw [hm];omega)
      obtain ⟨b',o',z',e9,_,hz',_,hcell'⟩:=hu.get (k:=1) (by rw [hm];omega)
      obtain ⟨rfl,rfl⟩ : b = b' ∧ o = o':=by simpa using e9
      rw [hanc] at hz hz'
      obtain rfl : pnm = z:=by simpa using hz
      obtain rfl : qnm = z':=by simpa using hz'
      rw [Nat.add_zero] at hcell
      exact ⟨b,o,vc,he,hb,hcell,hcell'⟩,hc⟩
     have KB : Hid (∀ W x,x.length ≤ 1048576 → Calm w W → Calls Tryz.prog 17 #[.slice A n c,.string (bs x)] W fun e w'=>EntOut (betR ss x).1 (betR ss x).2 W.heap.size e w' ∧ Calm W w'):=fun W x hx hW=>Between_c ss x A n c W (hv.calm hW) hn hx hsm hsz
     obtain ⟨es,hes⟩ : ∃ es,(betR ss nm).1 = es:=⟨_,rfl⟩
     obtain ⟨ex,hex⟩ : ∃ ex,(betR ss nm).2 = ex:=⟨_,rfl⟩
     obtain ⟨fs,hfs⟩ : ∃ fs,(betR ss pnm).1 = fs:=⟨_,rfl⟩
     obtain ⟨fx,hfx⟩ : ∃ fx,(betR ss pnm).2 = fx:=⟨_,rfl⟩
     obtain ⟨el,hel⟩ : ∃ el,es.length = el:=⟨_,rfl⟩
     obtain ⟨fl,hfl⟩ : ∃ fl,fs.length = fl:=⟨_,rfl⟩
     have hrp : readyE ss pnm = 0:=by rw [← hpnm];exact ready_good hg hpl
     have hfp : findI ss pnm = some p:=by rw [← hpnm];exact hg.find hpl
     -- where both are well
     have hboth : Hid (ex = 0 → fx = 0 → betI ss i = some es ∧ betI ss p = some fs):=fun h0 h2=>by
      have hp0 : (strm ss i).parent ≠ []:=fun h=>by rw [parentI_main h] at hp;cases hp
      have hp1 : (strm ss p).parent ≠ []:=fun h=>by rw [parentI_main h] at hq;cases hq
      rcases hb1 : betI ss i with _ | x
      ·rw [betR_none hx hfi hp0 hb1] at hex
       rw [← hex] at h0
       cases h0
      ·rcases hb2 : betI ss p with _ | y
       ·rw [betR_none hrp hfp hp1 hb2] at hfx
        rw [← hfx] at h2
        cases h2
       ·rw [betR_some hx hfi hp0 hb1] at hes
        rw [betR_some hrp hfp hp1 hb2] at hfs
        exact ⟨by rw [← hes],by rw [← hfs]⟩
     have hfew : Hid (el ≤ 1048576 ∧ fl ≤ 1048576):=by
      have key : ∀ x,(betR ss x).1.length ≤ 32:=fun x=>by
       unfold betR
       split
       ·exact Nat.zero_le _
       ·rename_i h0
        split
        ·exact Nat.zero_le _
        ·have h0' : readyE ss x = 0:=by simpa using h0
         obtain ⟨j,_,hfj,hj,_⟩:=locE_ok h0'
         rw [hfj]
         simp only [Option.getD_some]
         rcases hb : betI ss j with _ | l
         ·exact Nat.zero_le _
         ·exact (bet_small hg hsz hj hb).2
      show _ ∧ _
      have h3:=key nm
      have h4:=key pnm
      rw [hes,hel] at h3
      rw [hfs,hfl] at h4
      exact ⟨by omega,by omega⟩
     have KB1 : Hid (∀ W,Calm w W → Calls Tryz.prog 17 #[.slice A n c,.string (bs nm)] W fun e w'=>(∃ A2 c2,e = .returned (.tuple #[.slice A2 el c2,.int .i64 ex]) ∧ el ≤ c2 ∧ c2 ≤ 9223372036854775807 ∧ EntsA w' A2 es) ∧ Calm W w'):=fun W hW=>(KB.out W nm hnm hW).mono fun e w' ⟨⟨A2,c2,he,g1,g2,zs,g3,g4,g5⟩,hc⟩=>by
      rw [hes] at he g1 g3
      rw [hex] at he
      rw [hel] at he g1
      exact ⟨⟨A2,c2,he,g1,g2,entsA_of g3 g4 g5 (by rw [hel];exact hfew.out.1)⟩,hc⟩
     have KB2 : Hid (∀ W,Calm w W → Calls Tryz.prog 17 #[.slice A n c,.string (bs pnm)] W fun e w'=>(∃ A2 c2,e = .returned (.tuple #[.slice A2 fl c2,.int .i64 fx]) ∧ fl ≤ c2 ∧ c2 ≤ 9223372036854775807 ∧ EntsA w' A2 fs) ∧ Calm W w'):=fun W hW=>(KB.out W pnm hpn hW).mono fun e w' ⟨⟨A2,c2,he,g1,g2,zs,g3,g4,g5⟩,hc⟩=>by
      rw [hfs] at he g1 g3
      rw [hfx] at he
      rw [hfl] at he g1
      exact ⟨⟨A2,c2,he,g1,g2,entsA_of g3 g4 g5 (by rw [hfl];exact hfew.out.2)⟩,hc⟩
     by_cases hbad : ex ≠ 0 ∨ fx ≠ 0
     ·have hbb : (ex != 0) = true ∨ ((ex != 0) = false ∧ (fx != 0) = true):=by
       by_cases h0 : ex = 0
       ·right
        refine ⟨by rw [h0];rfl,?_⟩
        rcases hbad with h | h
        ·exact absurd h0 h
        ·simpa using h
       ·left
        simpa using h0
      clear hv hn hM hy hsm hsz hm hE hfi hi hg hx hp hq hanc hpl hql hpnm hqnm hes hex hfs hfx hel hfl hrp hfp hboth hfew KB KN hbad
      go_enter Tryz.func6,Tryz.ntmps6
      go_wp2_with (first
       |(go_at_call 7;refine hsmall.mono ?_;rintro e w2 ⟨rfl,hc2⟩)
       |(go_at_call 18;refine (KN2.out w2 hc2).mono ?_;rintro e w3 ⟨⟨b,o,vc,rfl,hb,hca,hcb⟩,hc3⟩))
      refine (KB1.out w3 (hc2.trans hc3)).mono ?_
      rintro e w4 ⟨⟨A2,c2,rfl,_,_,_⟩,hc4⟩
      have HC4 : Hid (Calm w w4):=(hc2.trans hc3).trans hc4
      have hca:=Calm.at_ hc4 hca hb
      have hb:=Nat.lt_of_lt_of_le hb hc4.size
      clear hc2 hc3 hc4 hcb
      go_wp2_with fail
      refine (KB2.out w4 HC4.out).mono ?_
      rintro e w5 ⟨⟨A3,c3,rfl,_,_,_⟩,hc5⟩
      have HC5 : Hid (Calm w w5):=HC4.out.trans hc5
      clear hc5 hca hb
      rcases hbb with hbb | ⟨hbb,hbc⟩
      ·go_wp2_with (go_at_call 8;refine (KA.out w5 HC5.out).mono ?_;rintro e w6 ⟨rfl,hc6⟩)
       go_ret
       exact ⟨rfl,HC5.out.trans hc6⟩
      ·go_wp2_with (go_at_call 8;refine (KA.out w5 HC5.out).mono ?_;rintro e w6 ⟨rfl,hc6⟩)
       go_ret
       exact ⟨rfl,HC5.out.trans hc6⟩
     ·have hex0 : ex = 0:=Classical.byContradiction fun h=>hbad (.inl h)
      have hfx0 : fx = 0:=Classical.byContradiction fun h=>hbad (.inr h)
      obtain ⟨hb1,hb2⟩:=hboth.out hex0 hfx0
      subst hex0 hfx0
      have he80:=bet_80 hg hsz hi hb1
      have hf80:=bet_80 hg hsz hpl hb2
      obtain ⟨co,hco⟩ : ∃ co,(comE es fs).1 = co:=⟨_,rfl⟩
      obtain ⟨cx,hcx⟩ : ∃ cx,(comE es fs).2 = cx:=⟨_,rfl⟩
      obtain ⟨cl,hcl⟩ : ∃ cl,co.length = cl:=⟨_,rfl⟩
      have hc32 : cl ≤ 32:=by
       rw [← hcl,← hco]
       exact comE_few es fs
      have hcs : ∀ x ∈ co,SmallE x:=by
       rw [← hco]
       exact comE_160 he80 hf80
      obtain ⟨ix,hix⟩ : ∃ ix,(mapE co).1 = ix:=⟨_,rfl⟩
      obtain ⟨er,her⟩ : ∃ er,(mapE co).2 = er:=⟨_,rfl⟩
      obtain ⟨k,hk⟩ : ∃ k,(locI ss i s1).1 = k:=⟨_,rfl⟩
      obtain ⟨s,hs⟩ : ∃ s,(locI ss i s1).2 = s:=⟨_,rfl⟩
      obtain ⟨kq,hkq⟩ : ∃ kq,(locI ss q s1).1 = kq:=⟨_,rfl⟩
      obtain ⟨t,ht⟩ : ∃ t,(locI ss q s1).2 = t:=⟨_,rfl⟩
      have hsl : s.length ≤ 8000:=by
       rw [← hs]
       exact src_len2 hg hsm hi (by omega)
      have K1 : Hid (∀ W,Calm w W → Calls Tryz.prog 13 #[.slice A n c,.string (bs nm),.string (bs s1)] W fun e w'=>e = .returned (.tuple #[.int .i64 k,.string (bs s),.int .i64 0]) ∧ Calm W w'):=fun W hW=>by
       have:=locate_c ss nm s1 A n c W (hv.calm hW) hn hnm (by omega) hsm (hM.calm hW)
       rw [hE s1] at this
       simp only [hk,hs] at this
       exact this
      have K2 : Hid (∀ W,Calm w W → Calls Tryz.prog 13 #[.slice A n c,.string (bs qnm),.string (bs s1)] W fun e w'=>e = .returned (.tuple #[.int .i64 kq,.string (bs t),.int .i64 0]) ∧ Calm W w'):=fun W hW=>by
       have:=locate_c ss qnm s1 A n c W (hv.calm hW) hn hqn (by omega) hsm (hM.calm hW)
       have h3:=locE_good hg hql s1
       rw [hqnm] at h3
       rw [h3] at this
       simp only [hkq,ht] at this
       exact this
      have KCo : Hid (∀ W A2 c2 A3 c3,EntsA W A2 es → el ≤ c2 → c2 ≤ 9223372036854775807 → EntsA W A3 fs → fl ≤ c3 → c3 ≤ 9223372036854775807 → Calls Tryz.prog 21 #[.slice A2 el c2,.slice A3 fl c3] W fun e w'=>(∃ A4 c4,e = .returned (.tuple #[.slice A4 cl c4,.int .i64 cx]) ∧ EntsA w' A4 co ∧ cl ≤ c4 ∧ c4 ≤ 9223372036854775807) ∧ Calm W w'):=fun W A2 c2 A3 c3 h2 h3 h4 h5 h6 h7=>by
       refine (mcom_c es fs el c2 fl c3 A2 A3 W h2 h3 h4 hel (fun x hx=>(he80 x hx).mono (by decide)) h5 h6 h7 hfl (fun x hx=>(hf80 x hx).mono (by decide))).mono fun e w' ⟨⟨A4,c4,he,g1,g2,zs,g3,g4,g5⟩,hc⟩=>?_
       rw [hco] at he g1 g3
       rw [hcx] at he
       rw [hcl] at he g1
       exact ⟨⟨A4,c4,he,entsA_of g3 g4 g5 (by omega),g1,g2⟩,hc⟩
      have KCk : Hid (∀ W A2 c2,EntsA W A2 co → cl ≤ c2 → c2 ≤ 9223372036854775807 → Calls Tryz.prog 14 #[.slice A2 cl c2] W fun e w'=>e = .returned (.tuple #[.int .i64 (ix : Nat),.int .i64 er]) ∧ Calm W w'):=fun W A2 c2 hW g1 g2=>by
       have:=check_c co cl c2 A2 W hW g1 g2 hcs hcl
       rw [hix,her] at this
       exact this
      obtain ⟨fo,hfo⟩ : ∃ fo,mfS co s = fo:=⟨_,rfl⟩
      have KF : Hid (∀ W A2 c2,Calm w W → EntsA W A2 co → cl ≤ c2 → c2 ≤ 9223372036854775807 → Calls Tryz.prog 16 #[.slice A2 cl c2,.string (bs s)] W fun e w'=>e = .returned (optV fo) ∧ Calm W w'):=fun W A2 c2 hw hW g1 g2=>by
       have:=mfwd_c co s cl c2 A2 W hW g1 g2 hcl hcs (by omega) (hM.calm hw)
       rw [mfV_eq,hfo] at this
       exact this
      have HFo : Hid (cx = 0 → er = 0 → (k = 1 → fo = some t) ∧ (k ≠ 1 → fo = none)):=fun h0 h2=>by
       obtain ⟨m1,m2,_⟩:=comE_ok (hcx.trans h0)
       have hfw:=comE_fwd (hcx.trans h0) (by rw [hco];exact her.trans h2) s
       rw [hco,hfo] at hfw
       have e1 : mfS es s = fwdM es s:=by unfold mfS;rw [if_pos m1]
       have e2 : mfS fs = fwdM fs:=funext fun u=>by unfold mfS;rw [if_pos m2]
       rw [e1,e2] at hfw
       refine ⟨fun h=>?_,fun h=>?_⟩
       ·have:=chain_share hg hi hp hq hb1 hb2 (c:=s1) (by rw [hk];exact h)
        rw [hs,ht] at this
        rw [hfw,this]
       ·have:=bet_unshared hg hi hb1 (c:=s1) (by rw [hk];exact h)
        rw [hs] at this
        rw [hfw,this]
        rfl
      clear hv hn hM hy hsm hsz hm hE hfi hi hg hx hp hq hanc hpl hql hpnm hqnm hes hex hfs hfx hel hfl hrp hfp hboth hfew KB KN hbad hb1 hb2 he80 hf80 hco hcx hcl hcs hix her hk hs hkq ht hfo hl1 hnm
      go_enter Tryz.func6,Tryz.ntmps6
      go_wp2_with (first
       |(go_at_call 7;refine hsmall.mono ?_;rintro e w2 ⟨rfl,hc2⟩)
       |(go_at_call 18;refine (KN2.out w2 hc2).mono ?_;rintro e w3 ⟨⟨b,o,vc,rfl,hb,hca,hcb⟩,hc3⟩))
      refine (KB1.out w3 (hc2.trans hc3)).mono ?_
      rintro e w4 ⟨⟨A2,c2,rfl,g1,g2,hea⟩,hc4⟩
      have HC4 : Hid (Calm w w4):=(hc2.trans hc3).trans hc4
      have hca:=Calm.at_ hc4 hca hb
      have hcb:=Calm.at_ hc4 hcb hb
      have hb:=Nat.lt_of_lt_of_le hb hc4.size
      have HEa:=Lib.hid (And.intro hea (And.intro g1 g2))
      clear hc2 hc3 hc4 hea g1 g2
      go_wp2_with fail
      refine (KB2.out w4 HC4.out).mono ?_
      rintro e w5 ⟨⟨A3,c3,rfl,g1,g2,hfa⟩,hc5⟩
      have HC5 : Hid (Calm w w5):=HC4.out.trans hc5
      have HCo:=Lib.hid (KCo.out w5 A2 c2 A3 c3 (HEa.out.1.calm hc5) HEa.out.2.1 HEa.out.2.2 hfa g1 g2)
      have hcb:=Calm.at_ hc5 hcb hb
      have hb:=Nat.lt_of_lt_of_le hb hc5.size
      clear hc5 hca hfa g1 g2
      go_wp2_with fail
      refine HCo.out.mono ?_
      rintro e w6 ⟨⟨A4,c4,rfl,hoa,g1,g2⟩,hc6⟩
      have HC6 : Hid (Calm w w6):=HC5.out.trans hc6
      have hcb:=Calm.at_ hc6 hcb hb
      have hb:=Nat.lt_of_lt_of_le hb hc6.size
      have HOa:=Lib.hid (And.intro hoa (And.intro g1 g2))
      clear hc6 HCo hoa g1 g2
      go_wp2_with fail
      refine (KCk.out w6 A4 c4 HOa.out.1 HOa.out.2.1 HOa.out.2.2).mono ?_
      rintro e w7 ⟨rfl,hc7⟩
      have HC7 : Hid (Calm w w7):=HC6.out.trans hc7
      have HO7 : Hid (EntsA w7 A4 co):=HOa.out.1.calm hc7
      have hcb:=Calm.at_ hc7 hcb hb
      have hb:=Nat.lt_of_lt_of_le hb hc7.size
      clear hc7
      by_cases hcx0 : cx = 0
      ·subst hcx0
       by_cases her0 : er = 0
       ·subst her0
        have HFo2:=Lib.hid (HFo.out (by trivial) (by trivial))
        clear HFo
        go_wp2_with fail
        refine (K1.out w7 HC7.out).mono ?_
        rintro e w8 ⟨rfl,hc8⟩
        have HC8 : Hid (Calm w w8):=HC7.out.trans hc8
        have HO8 : Hid (EntsA w8 A4 co):=HO7.out.calm hc8
        have hcb:=Calm.at_ hc8 hcb hb
        have hb:=Nat.lt_of_lt_of_le hb hc8.size
        clear hc8
        go_wp2_with fail
        refine (K2.out w8 HC8.out).mono ?_
        rintro e w9 ⟨rfl,hc9⟩
        have HC9 : Hid (Calm w w9):=HC8.out.trans hc9
        have HO9 : Hid (EntsA w9 A4 co):=HO8.out.calm hc9
        clear hc9 hcb hb
        go_wp2_with fail
        refine (KF.out w9 A4 c4 HC9.out HO9.out HOa.out.2.1 HOa.out.2.2).mono ?_
        rintro e w10 ⟨rfl,hc10⟩
        have HC10 : Hid (Calm w w10):=HC9.out.trans hc10
        clear hc10
        by_cases hk1 : k = 1
        ·rw [HFo2.out.1 hk1]
         subst hk1
         simp only [optV,Option.getD_some,Option.isSome_some]
         go_wp2_with (go_at_call 8;refine (KA.out w10 HC10.out).mono ?_;rintro e w11 ⟨rfl,hc11⟩)
         go_ret
         exact ⟨rfl,HC10.out.trans hc11⟩
        ·rw [HFo2.out.2 hk1]
         have hkb : (k == 1) = false:=by rw [beq_eq_false_iff_ne];exact hk1
         simp only [optV,Option.getD_none,Option.isSome_none]
         clear hk1
         go_wp2_with (go_at_call 8;refine (KA.out w10 HC10.out).mono ?_;rintro e w11 ⟨rfl,hc11⟩)
         go_ret
         exact ⟨rfl,HC10.out.trans hc11⟩
       ·have herb : (er != 0) = true:=by simpa using her0
        clear her0
        go_wp2_with (go_at_call 8;refine (KA.out w7 HC7.out).mono ?_;rintro e w8 ⟨rfl,hc8⟩)
        go_ret
        exact ⟨rfl,HC7.out.trans hc8⟩
      ·have hcxb : (cx != 0) = true:=by simpa using hcx0
       clear hcx0
       go_wp2_with (go_at_call 8;refine (KA.out w7 HC7.out).mono ?_;rintro e w8 ⟨rfl,hc8⟩)
       go_ret
       exact ⟨rfl,HC7.out.trans hc8⟩
   ·have KN : Hid (∀ W,Calm w W → Calls Tryz.prog 18 #[.slice A n c,.string (bs nm)] W fun e w'=>(∃ x : Int,(x != 0) = true ∧ e = .returned (.tuple #[.slice none 0 0,.int .i64 x])) ∧ Calm W w'):=fun W hW=>(anc_c ss nm A n c W (hv.calm hW) hn hnm).mono fun e w' ⟨h,hc⟩=>⟨by
     rcases h with ⟨x,hx0,hr,he⟩ | ⟨i',VA,vc,hr,_⟩
     ·exact ⟨x,by simpa using hx0,he⟩
     ·exact absurd hr hx,hc⟩
    clear hv hn hM hy hsm hsz hx
    go_enter Tryz.func6,Tryz.ntmps6
    go_wp2_with (first
     |(go_at_call 7;refine hsmall.mono ?_;rintro e w2 ⟨rfl,hc2⟩)
     |(go_at_call 18;refine (KN.out w2 hc2).mono ?_;rintro e w3 ⟨⟨x,hxb,rfl⟩,hc3⟩)
     |(go_at_call 8;refine (KA.out w3 (hc2.trans hc3)).mono ?_;rintro e w4 ⟨rfl,hc4⟩))
    go_ret
    exact ⟨rfl,(hc2.trans hc3).trans hc4⟩
end Go.Proofs.YtdcdabbepnahnaaGreatDoor
set_option linter.unusedVariables false
set_option linter.unusedSimpArgs false
namespace Go.Proofs.YtdcdabbepnahnaaGreatDoor
open Go Go.ChangeShapes Go.WideShapes Go.RowKit Go.Deep Sy

theorem cell_lt {w : World} {a : Addr} {v : Value} (h : w.cell? a = some v) : a.block < w.heap.size ∧ a.spot = none:=by
 unfold World.cell? at h
 split at h
 ·rename_i h1
  constructor
  ·rcases Nat.lt_or_ge a.block w.heap.size with h2 | h2
   ·exact h2
   ·rw [Array.getElem?_eq_none h2] at h1;cases h1
  ·split at h
   ·cases h
   ·rename_i h2;simpa using h2
 ·cases h

section
variable {H : Type} {enc : TypeId × Value → H} {w : World}

theorem u_strs : Tryz.prog.underlying 41 = some (.slice 9):=Tryz.underlying41
theorem u_str : Tryz.prog.underlying 9 = some .string:=Tryz.underlying9
theorem u_bool : Tryz.prog.underlying 4 = some .bool:=Tryz.underlying4
theorem c_str : Tryz.prog.cellsOf 9 = 1:=by kernel_rfl
theorem c_pat : Tryz.prog.cellsOf 51 = 2:=by kernel_rfl
set_option maxRecDepth 20000 in
theorem open_strD {v : Value} {b0 : Nat} {d : DataW H} {p : List MemPlace} (hv : Value.okWide Tryz.prog w .any b0 9 v) (h : DataW.Trod enc Tryz.prog w 0 (fun _=>true) true 9 v d p) :
  ∃ s : Str,v = .string (bs s) ∧ d = .lit (.string s) ∧ s.length ≤ 9223372036854775807:=by
 obtain ⟨s,rfl,hd,_,hs⟩:=Go.ChangeMaps.open_string Tryz.underlying9 hv h
 refine ⟨s.data.toList,by rw [bs_eta],hd,?_⟩
 have h2 : s.data.toList.length = s.size:=rfl
 rw [h2]
 exact hs
end
end Go.Proofs.YtdcdabbepnahnaaGreatDoor
set_option linter.unusedVariables false
set_option linter.unusedSimpArgs false
namespace Go.Proofs.YtdcdabbepnahnaaGreatDoor.bulks

theorem one_le {H : Type} (d : DataW H) : 1 ≤ Rows.uptoBulk d:=by
 cases d with
 |lit l=>cases l <;> simp [Rows.uptoBulk]
 |nil=>simp [Rows.uptoBulk]
 |ptr d=>simp [Rows.uptoBulk]
 |slice elems spare=>simp [Rows.uptoBulk]
 |agg parts=>simp [Rows.uptoBulk]
 |iface t d=>simp [Rows.uptoBulk]
 |map entries=>simp [Rows.uptoBulk]
 |held h=>simp [Rows.uptoBulk]
theorem part_le {H : Type} {d : DataW H} {l : List (DataW H)} (h : d ∈ l) : Rows.uptoBulk d ≤ Rows.uptoBulkAll l:=by
 induction l with
 |nil=>cases h
 |cons x r ih=>
  simp only [Rows.uptoBulkAll]
  cases List.mem_cons.1 h with
  |inl e=>subst e;omega
  |inr e=>have:=ih e;omega
theorem length_le {H : Type} (l : List (DataW H)) : l.length ≤ Rows.uptoBulkAll l:=by
 induction l with
 |nil=>simp [Rows.uptoBulkAll]
 |cons x r ih=>have:=one_le x;simp only [Rows.uptoBulkAll,List.length_cons];omega
theorem slice_le {H : Type} (elems spare : List (DataW H)) : elems.length + spare.length + 1 ≤ Rows.uptoBulk (.slice elems spare):=by
 have h1:=length_le elems
 have h2:=length_le spare
 simp only [Rows.uptoBulk]
 omega
theorem slice_elems {H : Type} (elems spare : List (DataW H)) : Rows.uptoBulkAll elems + 1 ≤ Rows.uptoBulk (.slice elems spare):=by
 simp only [Rows.uptoBulk]
 omega
theorem slice_part {H : Type} {d : DataW H} {elems spare : List (DataW H)} (h : d ∈ elems) : Rows.uptoBulk d ≤ Rows.uptoBulk (.slice elems spare):=by
 have h1:=part_le h
 have h2:=slice_elems elems spare
 omega
theorem agg_part {H : Type} {d : DataW H} {parts : List (DataW H)} (h : d ∈ parts) : Rows.uptoBulk d ≤ Rows.uptoBulk (.agg parts):=by
 have h1:=part_le h
 simp only [Rows.uptoBulk]
 omega
theorem all_part {H : Type} {d : DataW H} {l : List (DataW H)} {B : Nat} (hb : Rows.uptoBulkAll l ≤ B) (h : d ∈ l) : Rows.uptoBulk d ≤ B:=Nat.le_trans (part_le h) hb
theorem string_eq {H : Type} (bytes : List UInt8) : Rows.uptoBulk (DataW.lit (H:=H) (.string bytes)) = bytes.length + 1:=by
 simp [Rows.uptoBulk]
end Go.Proofs.YtdcdabbepnahnaaGreatDoor.bulks
set_option linter.unusedVariables false
set_option linter.unusedSimpArgs false
namespace Go.Proofs.YtdcdabbepnahnaaGreatDoor
open Go Go.ChangeShapes Go.WideShapes Go.RowKit Go.Deep Sy
section
variable {H : Type} {enc : TypeId × Value → H} {w : World}
set_option maxRecDepth 20000 in
theorem open_strU {fuel : Nat} {cs : List Value} {x : DataW H × List MemPlace} (h : DataW.trod enc Tryz.prog w 0 (fun _=>true) true fuel 41 cs = some x) (hb : Rows.uptoBulk x.1 ≤ 1048576) :
  ∃ A ls c,cs = [.slice A (List.length ls) c] ∧ ls.length ≤ c ∧ c ≤ 140737488355328 ∧ StrsU w A ls:=by
 rcases open_strs u_strs u_str c_str h with ⟨rfl,rfl⟩ | ⟨a,len,cap,m,Sx,rfl,_,hl,hm,hmm,rfl,hx⟩
 ·exact ⟨none,[],0,rfl,Nat.le_refl _,by decide,by simp,(fun l hl=>by cases hl),(fun h0=>absurd h0 (Nat.lt_irrefl _))⟩
 ·have hmc : m = cap:=hmm
  subst hmc
  have hs:=bulks.slice_le ((List.range len).map fun i=>DataW.lit (H:=H) (.string (Sx i).data.toList)) ((List.range (m - len)).map fun j=>.lit (.string (Sx (len + j)).data.toList))
  simp only [List.length_map,List.length_range] at hs
  have heach : ∀ i,i < len → (Sx i).data.toList.length ≤ 1048576:=fun i hi=>by
   have h1:=bulks.slice_part (spare:=(List.range (m - len)).map fun j=>DataW.lit (H:=H) (.string (Sx (len + j)).data.toList)) (List.mem_map.2 ⟨i,List.mem_range.2 hi,rfl⟩ : DataW.lit (H:=H) (.string (Sx i).data.toList) ∈ (List.range len).map fun i=>DataW.lit (H:=H) (.string (Sx i).data.toList))
   rw [bulks.string_eq] at h1
   have h2:=Nat.le_trans h1 hb
   omega
  have hcl : m ≤ 1048576:=by
   have h2:=Nat.le_trans hs hb
   omega
  refine ⟨some a,(List.range len).map fun i=>(Sx i).data.toList,m,by simp,by simpa using hl,by omega,by simp;omega,fun l hl2=>?_,fun h0=>?_⟩
  ·obtain ⟨i,hi,rfl⟩:=List.mem_map.1 hl2
   exact heach i (List.mem_range.1 hi)
  ·have h0' : 0 < len:=by simpa using h0
   obtain ⟨q1,q2⟩:=cell_lt (hx 0 (by omega)).1
   obtain ⟨ab,ao,asp⟩:=a
   have q3 : asp = none:=q2
   subst q3
   refine ⟨ab,ao,rfl,q1,fun k l hk=>?_⟩
   rw [List.getElem?_map] at hk
   obtain ⟨i,hi,rfl⟩:=Option.map_eq_some_iff.1 hk
   obtain ⟨hlt,he⟩:=List.getElem?_eq_some_iff.1 hi
   rw [List.getElem_range] at he
   subst he
   rw [List.length_range] at hlt
   have:=(hx k (by omega)).1
   rw [add_plain] at this
   rw [this,bs_eta]

set_option maxRecDepth 20000 in
theorem open_patU {fuel : Nat} {cs : List Value} {x : DataW H × List MemPlace} (h : DataW.trod enc Tryz.prog w 0 (fun _=>true) true fuel 51 cs = some x) (hb : Rows.uptoBulk x.1 ≤ 1048576) :
  ∃ (p : Pat) (A : Option Addr) (c : Nat),cs = [.slice A p.parts.length c,.bool p.rest] ∧ p.parts.length ≤ c ∧ c ≤ 140737488355328 ∧ StrsU w A p.parts:=by
 obtain ⟨y0,y1,n,rfl,hlen,h0,h1⟩:=trod_struct2 Tryz.underlying51 h
 rw [c_pat] at hlen
 match cs,hlen with
 |[c0,c1],_=>
  have e0 : DataW.trod enc Tryz.prog w 0 (fun _=>true) true n 41 [c0] = some y0:=h0
  have e1 : DataW.trod enc Tryz.prog w 0 (fun _=>true) true n 4 [c1] = some y1:=h1
  obtain ⟨A,ls,c,g1,g2,g3,g4⟩:=open_strU e0 (Nat.le_trans (bulks.agg_part (by simp)) hb)
  obtain ⟨r,g5,_⟩:=DataW.trod_bool u_bool e1
  simp only [List.cons.injEq,and_true] at g1 g5
  subst g1
  subst g5
  exact ⟨⟨ls,r⟩,A,c,rfl,g2,g3,g4⟩

end
end Go.Proofs.YtdcdabbepnahnaaGreatDoor
set_option linter.unusedVariables false
set_option linter.unusedSimpArgs false
namespace Go.Proofs.YtdcdabbepnahnaaGreatDoor
open Go Go.ChangeShapes Go.WideShapes Go.RowKit Go.Deep Sy
section
variable {H : Type} {enc : TypeId × Value → H} {w : World}
theorem u_strms : Tryz.prog.underlying 22 = some (.slice 49):=Tryz.underlying22
theorem u_lines : Tryz.prog.underlying 47 = some (.slice 53):=Tryz.underlying47
theorem u_int : Tryz.prog.underlying 3 = some (.int .i64):=Tryz.underlying3
theorem c_line : Tryz.prog.cellsOf 53 = 5:=by kernel_rfl
theorem c_strm : Tryz.prog.cellsOf 49 = 3:=by kernel_rfl

set_option maxRecDepth 20000 in
theorem open_lineU {fuel : Nat} {cs : List Value} {x : DataW H × List MemPlace} (h : DataW.trod enc Tryz.prog w 0 (fun _=>true) true fuel 53 cs = some x) (hb : Rows.uptoBulk x.1 ≤ 1048576) :
  ∃ (r : Line) (a : Pl),cs = [.int .i64 r.kind,.slice a.AL r.path.parts.length a.cl,.bool r.path.rest,.slice a.AR r.frm.parts.length a.cr,.bool r.frm.rest] ∧ RuleU w a r.rule:=by
 obtain ⟨y0,y1,y2,n,rfl,hlen,h0,h1,h2⟩:=trod_struct3 Tryz.underlying53 h
 rw [c_line] at hlen
 match cs,hlen with
 |[c0,c1,c2,c3,c4],_=>
  have e0 : DataW.trod enc Tryz.prog w 0 (fun _=>true) true n 3 [c0] = some y0:=h0
  have e1 : DataW.trod enc Tryz.prog w 0 (fun _=>true) true n 51 [c1,c2] = some y1:=by simpa [c_pat] using h1
  have e2 : DataW.trod enc Tryz.prog w 0 (fun _=>true) true n 51 [c3,c4] = some y2:=by simpa [c_pat] using h2
  obtain ⟨k0,g0,_⟩:=DataW.trod_int u_int e0
  obtain ⟨p1,A1,k1,g1,g2,g3,g4⟩:=open_patU e1 (Nat.le_trans (bulks.agg_part (by simp)) hb)
  obtain ⟨p2,A2,k2,j1,j2,j3,j4⟩:=open_patU e2 (Nat.le_trans (bulks.agg_part (by simp)) hb)
  simp only [List.cons.injEq,and_true] at g0 g1 j1
  subst g0
  obtain ⟨rfl,rfl⟩:=g1
  obtain ⟨rfl,rfl⟩:=j1
  exact ⟨⟨k0,p1,p2⟩,⟨A1,k1,A2,k2⟩,rfl,g4,j4,g2,j2,Nat.le_trans g3 (by decide),Nat.le_trans j3 (by decide)⟩

set_option maxRecDepth 20000 in
theorem open_linesU {fuel : Nat} {cs : List Value} {x : DataW H × List MemPlace} (h : DataW.trod enc Tryz.prog w 0 (fun _=>true) true fuel 47 cs = some x) (hb : Rows.uptoBulk x.1 ≤ 1048576) :
  ∃ A ls c,cs = [.slice A (List.length ls) c] ∧ ls.length ≤ c ∧ c ≤ 1048576 ∧ LinesU w A ls:=by
 rcases open_slice u_lines h with ⟨rfl,rfl⟩ | ⟨a,len,cap,m,n,D,Pq,rfl,_,hl,hm,hmm,rfl,hx⟩
 ·exact ⟨none,[],0,rfl,Nat.le_refl _,by decide,by simp,(fun h0=>absurd h0 (Nat.lt_irrefl _))⟩
 ·have hmc : m = cap:=hmm
  subst hmc
  have hs:=bulks.slice_le ((List.range len).map D) ((List.range (m - len)).map fun j=>D (len + j))
  simp only [List.length_map,List.length_range] at hs
  have hcl : m ≤ 1048576:=by
   have h2:=Nat.le_trans hs hb
   omega
  have each : ∀ i,i < len → ∃ y : Line × Pl,(∀ ab ao,a = ⟨ab,ao,none⟩ → LineAt w ab (ao + i * 5) y.2 y.1) ∧ RuleU w y.2 y.1.rule ∧ (w.cell? (a.add (i * 5))).isSome = true:=fun i hi=>by
   obtain ⟨cs',hc,ht⟩:=hx i (by omega)
   rw [c_line] at hc
   obtain ⟨r,p,rfl,g⟩:=open_lineU ht (Nat.le_trans (bulks.slice_part (List.mem_map.2 ⟨i,List.mem_range.2 hi,rfl⟩)) hb)
   obtain ⟨_,_,hat⟩:=World.cells?_some hc
   have h0:=hat 0 (by decide)
   have h1:=hat 1 (by decide)
   have h2:=hat 2 (by decide)
   have h3:=hat 3 (by decide)
   have h4:=hat 4 (by decide)
   refine ⟨⟨r,p⟩,fun ab ao e=>?_,g,?_⟩
   ·subst e
    rw [add_plain] at h0 h1 h2 h3 h4
    rw [add_plain] at h0 h1 h2 h3 h4
    exact ⟨h0,h1,h2,h3,h4⟩
   ·have h5 : (a.add (i * 5)).add 0 = a.add (i * 5):=by simp [Addr.add]
    rw [h5] at h0
    rw [h0]
    rfl
  obtain ⟨R,hR⟩:=choose_lt each
  refine ⟨some a,(List.range len).map fun i=>(R i).1,m,by simp,by simpa using hl,hcl,by simp;omega,fun h0=>?_⟩
  have h0' : 0 < len:=by simpa using h0
  obtain ⟨q0,hq0⟩:=Option.isSome_iff_exists.1 (hR 0 h0').2.2
  obtain ⟨q1,q2⟩:=cell_lt hq0
  obtain ⟨ab,ao,asp⟩:=a
  have q3 : asp = none:=q2
  subst q3
  refine ⟨ab,ao,rfl,q1,fun k r hk=>?_⟩
  rw [List.getElem?_map] at hk
  obtain ⟨i,hi,rfl⟩:=Option.map_eq_some_iff.1 hk
  obtain ⟨hlt,he⟩:=List.getElem?_eq_some_iff.1 hi
  rw [List.getElem_range] at he
  subst he
  rw [List.length_range] at hlt
  exact ⟨(R k).2,(hR k hlt).1 ab ao rfl,(hR k hlt).2.1⟩

set_option maxRecDepth 20000 in
theorem open_strmU {fuel : Nat} {cs : List Value} {x : DataW H × List MemPlace} (h : DataW.trod enc Tryz.prog w 0 (fun _=>true) true fuel 49 cs = some x) (hb : Rows.uptoBulk x.1 ≤ 1048576) :
  ∃ (s : Strm) (A : Option Addr) (c : Nat),cs = [.string (bs s.name),.string (bs s.parent),.slice A s.paths.length c] ∧ StrmU w A c s ∧ s.paths.length ≤ 1048576:=by
 obtain ⟨y0,y1,y2,n,rfl,hlen,h0,h1,h2⟩:=trod_struct3 Tryz.underlying49 h
 rw [c_strm] at hlen
 match cs,hlen with
 |[c0,c1,c2],_=>
  have e0 : DataW.trod enc Tryz.prog w 0 (fun _=>true) true n 9 [c0] = some y0:=h0
  have e1 : DataW.trod enc Tryz.prog w 0 (fun _=>true) true n 9 [c1] = some y1:=h1
  have e2 : DataW.trod enc Tryz.prog w 0 (fun _=>true) true n 47 [c2] = some y2:=h2
  obtain ⟨s0,g0,rfl,_⟩:=DataW.trod_string u_str e0
  obtain ⟨s1,g1,rfl,_⟩:=DataW.trod_string u_str e1
  obtain ⟨A,ls,c,j1,j2,j3,j4⟩:=open_linesU e2 (Nat.le_trans (bulks.agg_part (by simp)) hb)
  simp only [List.cons.injEq,and_true] at g0 g1 j1
  subst g0
  subst g1
  subst j1
  have b0:=Nat.le_trans (bulks.agg_part (d:=DataW.lit (H:=H) (.string s0.data.toList)) (parts:=[DataW.lit (.string s0.data.toList),DataW.lit (.string s1.data.toList),y2.1]) (by simp)) hb
  have b1:=Nat.le_trans (bulks.agg_part (d:=DataW.lit (H:=H) (.string s1.data.toList)) (parts:=[DataW.lit (.string s0.data.toList),DataW.lit (.string s1.data.toList),y2.1]) (by simp)) hb
  rw [bulks.string_eq] at b0 b1
  exact ⟨⟨s0.data.toList,s1.data.toList,ls⟩,A,c,by simp only [bs_eta],⟨by show s0.data.toList.length ≤ _;omega,by show s1.data.toList.length ≤ _;omega,j4,j2,Nat.le_trans j3 (by decide)⟩,Nat.le_trans j2 j3⟩

set_option maxRecDepth 20000 in
theorem open_strmsU {fuel : Nat} {cs : List Value} {x : DataW H × List MemPlace} (h : DataW.trod enc Tryz.prog w 0 (fun _=>true) true fuel 22 cs = some x) (hb : Rows.uptoBulk x.1 ≤ 1048576) :
  ∃ A ss c,cs = [.slice A (List.length ss) c] ∧ ss.length ≤ c ∧ c ≤ 1048576 ∧ StrmsU w A ss ∧ ∀ t ∈ ss,t.paths.length ≤ 1048576:=by
 rcases open_slice u_strms h with ⟨rfl,rfl⟩ | ⟨a,len,cap,m,n,D,Pq,rfl,_,hl,hm,hmm,rfl,hx⟩
 ·exact ⟨none,[],0,rfl,Nat.le_refl _,by decide,⟨by simp,(fun h0=>absurd h0 (Nat.lt_irrefl _))⟩,(fun t ht=>by cases ht)⟩
 ·have hmc : m = cap:=hmm
  subst hmc
  have hs:=bulks.slice_le ((List.range len).map D) ((List.range (m - len)).map fun j=>D (len + j))
  simp only [List.length_map,List.length_range] at hs
  have hcl : m ≤ 1048576:=by
   have h2:=Nat.le_trans hs hb
   omega
  have each : ∀ i,i < len → ∃ y : Strm × Option Addr × Nat,(∀ ab ao,a = ⟨ab,ao,none⟩ → StrmAt w ab (ao + i * 3) y.2.1 y.2.2 y.1) ∧ StrmU w y.2.1 y.2.2 y.1 ∧ (w.cell? (a.add (i * 3))).isSome = true ∧ y.1.paths.length ≤ 1048576:=fun i hi=>by
   obtain ⟨cs',hc,ht⟩:=hx i (by omega)
   rw [c_strm] at hc
   obtain ⟨r,A,c,rfl,g⟩:=open_strmU ht (Nat.le_trans (bulks.slice_part (List.mem_map.2 ⟨i,List.mem_range.2 hi,rfl⟩)) hb)
   obtain ⟨_,_,hat⟩:=World.cells?_some hc
   have h0:=hat 0 (by decide)
   have h1:=hat 1 (by decide)
   have h2:=hat 2 (by decide)
   refine ⟨⟨r,A,c⟩,fun ab ao e=>?_,g.1,?_,g.2⟩
   ·subst e
    rw [add_plain] at h0 h1 h2
    rw [add_plain] at h0 h1 h2
    exact ⟨h0,h1,h2⟩
   ·have h5 : (a.add (i * 3)).add 0 = a.add (i * 3):=by simp [Addr.add]
    rw [h5] at h0
    rw [h0]
    rfl
  obtain ⟨R,hR⟩:=choose_lt each
  refine ⟨some a,(List.range len).map fun i=>(R i).1,m,by simp,by simpa using hl,hcl,⟨by simp;omega,fun h0=>?_⟩,fun t ht=>by
   obtain ⟨i,hi,rfl⟩:=List.mem_map.1 ht
   exact (hR i (List.mem_range.1 hi)).2.2.2⟩
  have h0' : 0 < len:=by simpa using h0
  obtain ⟨q0,hq0⟩:=Option.isSome_iff_exists.1 (hR 0 h0').2.2.1
  obtain ⟨q1,q2⟩:=cell_lt hq0
  obtain ⟨ab,ao,asp⟩:=a
  have q3 : asp = none:=q2
  subst q3
  refine ⟨ab,ao,rfl,q1,fun k r hk=>?_⟩
  rw [List.getElem?_map] at hk
  obtain ⟨i,hi,rfl⟩:=Option.map_eq_some_iff.1 hk
  obtain ⟨hlt,he⟩:=List.getElem?_eq_some_iff.1 hi
  rw [List.getElem_range] at he
  subst he
  rw [List.length_range] at hlt
  exact ⟨(R k).2.1,(R k).2.2,(hR k hlt).1 ab ao rfl,(hR k hlt).2.1⟩

set_option maxRecDepth 20000 in
theorem open_strmsL {v : Value} {b0 : Nat} {d : DataW H} {p : List MemPlace} (hv : Value.okWide Tryz.prog w .any b0 22 v) (h : DataW.Trod enc Tryz.prog w 0 (fun _=>true) true 22 v d p) (hb : Rows.uptoBulk d ≤ 1048576) :
  ∃ (A : Option Addr) (ss : List Strm) (c : Nat),v = .slice A ss.length c ∧ StrmsU w A ss ∧ ss.length ≤ c ∧ c ≤ 1048576 ∧ ∀ t ∈ ss,t.paths.length ≤ 1048576:=by
 obtain ⟨a0,len,cap,rfl⟩:=okWide_slice Tryz.underlying22 hv
 obtain ⟨fuel,hf⟩:=h
 obtain ⟨A,ss,c,h1,h2,h3,h4,h5⟩:=open_strmsU hf hb
 simp only [Value.cells,List.cons.injEq,and_true] at h1
 exact ⟨A,ss,c,h1,h4,h2,h3,h5⟩
end
end Go.Proofs.YtdcdabbepnahnaaGreatDoor
set_option linter.unusedVariables false
set_option linter.unusedSimpArgs false
namespace Go.Proofs.YtdcdabbepnahnaaGreatDoor
open Go.ChangeShapes Go.WideShapes Go.ChangeAt Go.RowKit

theorem fact_and {a b : Bool} (ha : a = true) (hb : b = true) : (a && b) = true:=by rw [ha,hb];rfl
theorem fact1 : (laidOutB Tryz.pinned.checked.prog) = true:=by kernel_rfl
theorem fact2 : (mapsRowed Tryz.pinned.checked.prog) = true:=by kernel_rfl
theorem fact6 : ((Tryz.pinned.checked.prog.stops == [])) = true:=by kernel_rfl
theorem fact8 : ((Tryz.pinned.checked.prog.stopKnobs == [])) = true:=by kernel_rfl
theorem fact22 : ((Rows.streamViewMeansUptoRow.plainKeys == Tryz.pinned.checked.prog.plainKeys)) = true:=by kernel_rfl
theorem fact24 : (Tryz.pinned.checked.prog.stopsHeard) = true:=by kernel_rfl
theorem fact25 : (Tryz.pinned.checked.prog.mayEnter) = true:=by kernel_rfl
theorem fact26 : ((Rows.streamViewMeansUptoRow.lifted == Tryz.pinned.checked.prog.liftsFinal)) = true:=by kernel_rfl
theorem fact27 : ((Tryz.pinned.checked.prog.make == some Rows.streamViewMeansUptoRow.make)) = true:=by kernel_rfl
theorem factLooks : false = Tryz.pinned.checked.prog.looks []:=by kernel_rfl
end Go.Proofs.YtdcdabbepnahnaaGreatDoor
set_option linter.unusedVariables false
set_option linter.unusedSimpArgs false
namespace Go.Proofs.YtdcdabbepnahnaaGreatDoor.streamChainUpto
open Go.ChangeShapes Go.WideShapes Go.ChangeAt Go.RowKit Sy

theorem own : ownKnob Tryz.prog.godebug = none:=by kernel_rfl
theorem laidOut : laidOutB Tryz.prog = true:=by kernel_rfl
def accZ : List Int:=[128,191,160,191,128,159,144,191,128,143,0,0,0,0,0,0,0,0,0,0,0,0,0,0,0,0,0,0,0,0,0,0]

theorem maxL {W : World} (h : W.ShapedOpen Tryz.prog) : MaxL W:=by
 obtain ⟨m,hm⟩:=Tryz.laysM146.s1_3 W h
 exact ⟨(cell_lt hm).1,m,hm⟩

set_option maxRecDepth 100000 in
theorem contract (H : Type) (enc : TypeId × Value → H) (W : World) (base : Nat) (args : Array Value) (ds gs : List (DataW H)) (before : List MemPlace)
  (hval : ∀ (j : Nat) t v,Tryz.f6.params[j]? = some t → args[j]? = some v → Value.okWide Tryz.prog W .any base t v)
  (hW : DataW.Whole enc Tryz.prog Tryz.f6.params.toList Rows.streamChainSpec.vars false W args.toList ds gs before)
  (hsz : (DataW.weightsEach Tryz.prog (Tryz.f6.params.toList ++ ((OpenSpec.ofChange Rows.streamChainSpec).bare.plain.varTypes Tryz.prog)) (ds ++ gs)).all (· ≤ reachBytes) = true) (hk : Rows.uptoSmall H (ds ++ gs) = true) (hL : laidMetH Tryz.prog Rows.streamChainUptoRow.laid W) (hsh : W.ShapedOpen Tryz.prog) :
  Calls Tryz.prog 6 args W fun e W'=>∃ v,e = .returned v ∧ Rows.streamChainSpec.post enc Tryz.prog Tryz.f6 false true false false W args v W':=by
 have hW':=hW
 obtain ⟨p,q,hA0,hV,rfl,hfz,hnd⟩:=hW
 have hA : DataW.TrodAll enc Tryz.prog W 0 (fun _=>true) true Tryz.f6.params.toList args.toList ds p:=hA0
 rw [Tryz.params6] at hA hval hsz
 obtain ⟨v0,vs0,d0,ds0,p0,q0,hargs,rfl,rfl,h0,r0⟩:=trodAll_cons hA
 obtain ⟨v1,vs1,d1,ds1,p1,q1,rfl,rfl,rfl,h1,r1⟩:=trodAll_cons r0
 obtain ⟨v2,vs2,d2,ds2,p2,q2,rfl,rfl,rfl,h2,r2⟩:=trodAll_cons r1
 obtain ⟨rfl,rfl,rfl⟩:=trodAll_nil r2
 obtain rfl : args = #[v0,v1,v2]:=by cases args;simp_all
 obtain ⟨rfl,rfl⟩:=trodVars_none hV
 clear hA0
 simp only [List.append_nil] at hW'
 have hkb : Rows.uptoBulkAll [d0,d1,d2] ≤ 1048576:=of_decide_eq_true hk
 obtain ⟨SA,ss,sc,rfl,t1,t2,t3⟩:=open_strmsL (hval 0 22 v0 rfl rfl) h0 (bulks.all_part hkb (show d0 ∈ [d0,d1,d2] by simp))
 obtain ⟨s,rfl,hsd,hs1⟩:=open_strD (hval 1 9 v1 rfl rfl) h1
 have hsb:=bulks.all_part hkb (show d1 ∈ [d0,d1,d2] by simp)
 rw [hsd,bulks.string_eq] at hsb
 have hs1 : s.length ≤ 1048576:=by omega
 obtain ⟨s2,rfl,hsd2,hs12⟩:=open_strD (hval 2 9 v2 rfl rfl) h2
 have hsb2:=bulks.all_part hkb (show d2 ∈ [d0,d1,d2] by simp)
 rw [hsd2,bulks.string_eq] at hsb2
 have hs12 : s2.length ≤ 1048576:=by omega
 have hlt0 : ∀ x ∈ p0,x.block < W.heap.size:=fun x hx=>by simpa using hW'.lt x (by simp [hx])
 have hlt1 : ∀ x ∈ p1,x.block < W.heap.size:=fun x hx=>by simpa using hW'.lt x (by simp [hx])
 have hlt2 : ∀ x ∈ p2,x.block < W.heap.size:=fun x hx=>by simpa using hW'.lt x (by simp [hx])
 refine (strChain_c ss s s2 SA ss.length sc W t1 rfl hs1 hs12 (maxL hsh)).mono fun e W' ⟨he,hg⟩=>?_
 subst he
 have h0' : DataW.Trod enc Tryz.prog W' 0 (fun b=>decide (b < W.heap.size)) true 22 _ _ p0:=Below.trod laidOut (by kernel_rfl) (of_decide_eq_true (by kernel_rfl)) h0 hg hlt0
 have h1' : DataW.Trod enc Tryz.prog W' 0 (fun b=>decide (b < W.heap.size)) true 9 _ _ p1:=Below.trod laidOut (by kernel_rfl) (of_decide_eq_true (by kernel_rfl)) h1 hg hlt1
 have h2' : DataW.Trod enc Tryz.prog W' 0 (fun b=>decide (b < W.heap.size)) true 9 _ _ p2:=Below.trod laidOut (by kernel_rfl) (of_decide_eq_true (by kernel_rfl)) h2 hg hlt2
 refine ⟨_,rfl,_,_,_,[],_,[],hW',?_,trodAll_mk3 h0' h1' h2',rfl,hg.frame _,fun h=>by cases h⟩
 exact trodAll_mk1 (shut_bool Tryz.underlying4 _)

def argsW : Array Value:=#[.slice none 0 0,.string ⟨#[]⟩,.string ⟨#[]⟩]
noncomputable def laidWorld (os : Os) : World:=
 { World.holding Tryz.prog os ⟨#[],#[],[]⟩ with heap:=(((World.holding Tryz.prog os ⟨#[],#[],[]⟩).heap.modify 2 (fun
   |.cells _ t frozen=>.cells (accZ.map fun z=>Value.int .u8 z).toArray t frozen
   |o=>o)).modify 1 (fun
   |.cells _ t frozen=>.cells (Go.Pinned.utf8FirstZ.map fun z : Nat=>Value.int .u8 (z : Int)).toArray t frozen
   |o=>o)) }
theorem laid_met (os : Os) : laidMet Tryz.prog Rows.streamChainUptoRow.laid ((laidWorld os).forCall (fun _ _=>0) ⟨#[],argsW,[]⟩).memory:=
 laidMet_of_run' 8 (by kernel_rfl) (by kernel_rfl)
theorem reads (os : Os) {H : Type} (enc : TypeId × Value → H) : ∃ places,DataW.whole enc Tryz.prog ((laidWorld os).forCall (fun _ _=>0) ⟨#[],argsW,[]⟩).memory Tryz.f6.params.toList Rows.streamChainSpec.vars false argsW.toList 8 = some ([.nil,.lit (.string []),.lit (.string [])],[],places):=
 ⟨[],by kernel_rfl⟩

set_option maxRecDepth 100000 in
theorem lifted (os : Os) (started : os.Started) (H : Type) (enc : TypeId × Value → H) (F : Stop.Interp) :
  ReturnsInHanded {} Tryz.checked os 6 .any ((Rows.OpenSpec.upto Rows.streamChainSpec).preRow enc Tryz.prog Tryz.f6 Rows.streamChainUptoRow.domain false Rows.streamChainUptoRow.laid) (((Rows.OpenSpec.upto Rows.streamChainSpec).at F).post enc Tryz.prog Tryz.f6 false true false false):=by
 obtain ⟨places,hx⟩:=reads os enc
 refine returnsInHanded_of_row (C:=Tryz.checked) (s:=Rows.OpenSpec.upto Rows.streamChainSpec) own started (by kernel_rfl) Tryz.func6
  (witness_row_at (enc:=enc) (C:=Tryz.checked) false (laidWorld os) argsW rfl (by kernel_rfl) (by kernel_rfl) (by kernel_rfl)
   (OpenSpec.preRow_of_cond 8 hx (by kernel_rfl) (fun k hk=>by cases hk;kernel_rfl) (by kernel_rfl) (laid_met os))) ?_
 intro W base args ds gs before hval hW hcnd hcond hsz hL hsh _
 exact contract H enc W base args ds gs before hval hW hsz (hcond _ rfl) hL hsh

theorem own0 : (Rows.streamChainUptoRow.wf (OpenSpec.ofChange (Rows.OpenSpec.upto Rows.streamChainSpec).bare)) = true:=by kernel_rfl
theorem own1 : (laidOutB Tryz.pinned.checked.prog) = true:=fact1
theorem own2 : (mapsRowed Tryz.pinned.checked.prog) = true:=fact2
theorem own3 : (Tryz.f6.params.all (Tryz.pinned.checked.prog.readableRec ·)) = true:=by kernel_rfl
theorem own4 : (namedTie Tryz.pinned.checked.prog Rows.streamChainUptoRow.named (Rows.OpenSpec.upto Rows.streamChainSpec).bare.vars) = true:=by kernel_rfl
theorem own5 : ((Rows.streamChainUptoRow.stops == [])) = true:=by kernel_rfl
theorem own6 : ((Tryz.pinned.checked.prog.stops == [])) = true:=fact6
theorem own7 : ((Rows.streamChainUptoRow.knobs == [])) = true:=by kernel_rfl
theorem own8 : ((Tryz.pinned.checked.prog.stopKnobs == [])) = true:=fact8
theorem own9 : ((Rows.streamChainUptoRow.inPlace == Tryz.pinned.checked.prog.inPlace 6)) = true:=by kernel_rfl
theorem own10 : ((Rows.streamChainUptoRow.unfollowed == Tryz.pinned.checked.prog.unfollowed 6)) = true:=by kernel_rfl
theorem own11 : ((Rows.streamChainUptoRow.recurses == Tryz.pinned.checked.prog.recurses 6)) = true:=by kernel_rfl
theorem own12 : ((Rows.streamChainUptoRow.named == Tryz.pinned.checked.prog.varsNamed 6)) = true:=by kernel_rfl
theorem own13 : ((Rows.streamChainUptoRow.maps == (Tryz.f6.params.toList ++ (Rows.OpenSpec.upto Rows.streamChainSpec).bare.plain.varTypes Tryz.pinned.checked.prog).any (Tryz.pinned.checked.prog.mapsRec ·))) = true:=by kernel_rfl
theorem own14 : ((Rows.streamChainUptoRow.ifaces == (Tryz.f6.params.toList ++ (Rows.OpenSpec.upto Rows.streamChainSpec).bare.plain.varTypes Tryz.pinned.checked.prog).any (Tryz.pinned.checked.prog.ifacesRec ·))) = true:=by kernel_rfl
theorem own15 : ((Rows.streamChainUptoRow.mapsOut == Tryz.pinned.checked.prog.mapsAmong Tryz.f6.resultTypes.toList)) = true:=by kernel_rfl
theorem own16 : ((Rows.streamChainUptoRow.loops == (Tryz.f6.params.toList ++ (Rows.OpenSpec.upto Rows.streamChainSpec).bare.plain.varTypes Tryz.pinned.checked.prog).any (Tryz.pinned.checked.prog.loopsFrom ·))) = true:=by kernel_rfl
theorem own17 : ((Rows.streamChainUptoRow.wideKeys == (Tryz.f6.params.toList ++ (Rows.OpenSpec.upto Rows.streamChainSpec).bare.plain.varTypes Tryz.pinned.checked.prog ++ Tryz.f6.resultTypes.toList).any (Tryz.pinned.checked.prog.wideKeysFrom ·))) = true:=by kernel_rfl
theorem own18 : ((Rows.OpenSpec.upto Rows.streamChainSpec).bare.vars.all (Tryz.pinned.checked.prog.varReadable ·)) = true:=by kernel_rfl
theorem own19 : (Tryz.f6.resultTypes.all (fun t=>Tryz.pinned.checked.prog.readableRec t && decide (t < Tryz.pinned.checked.prog.types.size))) = true:=by kernel_rfl
theorem own20 : ((Rows.streamChainUptoRow.ifacesOut == Tryz.f6.resultTypes.toList.any (Tryz.pinned.checked.prog.ifacesRec ·))) = true:=by kernel_rfl
theorem own21 : ((Rows.streamChainUptoRow.loopsOut == Tryz.f6.resultTypes.toList.any (Tryz.pinned.checked.prog.loopsFrom ·))) = true:=by kernel_rfl
theorem own22 : ((Rows.streamChainUptoRow.plainKeys == Tryz.pinned.checked.prog.plainKeys)) = true:=fact22
theorem own23 : (Rows.streamChainUptoRow.shortTexts.isNone) = true:=by kernel_rfl
theorem own24 : (Tryz.pinned.checked.prog.stopsHeard) = true:=fact24
theorem own25 : (Tryz.pinned.checked.prog.mayEnter) = true:=fact25
theorem own26 : ((Rows.streamChainUptoRow.lifted == Tryz.pinned.checked.prog.liftsFinal)) = true:=fact26
theorem own27 : ((Tryz.pinned.checked.prog.make == some Rows.streamChainUptoRow.make)) = true:=fact27
theorem own28 : ((Rows.streamChainUptoRow.kinds == (if Rows.streamChainUptoRow.domain.isEmpty then [] else Tryz.f6.params.toList.map fun t=>match Tryz.pinned.checked.prog.underlying t with | some (.int k)=>some k | _=>none))) = true:=by kernel_rfl
theorem own29 : ((Rows.streamChainUptoRow.pinned == Rows.streamChainUptoRow.pinnedBy)) = true:=by kernel_rfl
theorem own30 : ((Rows.streamChainUptoRow.veiled == (Tryz.f6.params.toList ++ (Rows.OpenSpec.upto Rows.streamChainSpec).bare.plain.varTypes Tryz.pinned.checked.prog ++ Tryz.f6.resultTypes.toList).any (Tryz.pinned.checked.prog.veiledRec ·))) = true:=by kernel_rfl
theorem own31 : (Rows.streamChainUptoRow.veiledFits Tryz.pinned.checked.prog Tryz.f6.params.toList (Tryz.f6.params.toList ++ (Rows.OpenSpec.upto Rows.streamChainSpec).bare.plain.varTypes Tryz.pinned.checked.prog ++ Tryz.f6.resultTypes.toList)) = true:=by kernel_rfl
theorem closed : joinedFacts Tryz.pinned.checked.prog 6 Tryz.f6 (Rows.OpenSpec.upto Rows.streamChainSpec).bare Rows.streamChainUptoRow = true:=(fact_and (fact_and (fact_and (fact_and (fact_and (fact_and (fact_and (fact_and (fact_and (fact_and (fact_and (fact_and (fact_and (fact_and (fact_and (fact_and (fact_and (fact_and (fact_and (fact_and (fact_and (fact_and (fact_and (fact_and (fact_and (fact_and (fact_and (fact_and (fact_and (fact_and (fact_and own0 own1) own2) own3) own4) own5) own6) own7) own8) own9) own10) own11) own12) own13) own14) own15) own16) own17) own18) own19) own20) own21) own22) own23) own24) own25) own26) own27) (by kernel_rfl)) own29) own30) own31)
theorem named : Tryz.pinned.checked.prog.funcNamed Rows.streamChainUptoRow.func = some 6:=by kernel_rfl
theorem named2 : Tryz.prog.funcNamed "stockyard/stockyardlaw08.StreamChain" = some 6 := by kernel_rfl
theorem inst : (Tryz.f6).isInstance Tryz.pinned.checked.prog Rows.streamChainUptoRow.origin Rows.streamChainUptoRow.targs:=of_decide_eq_true (by kernel_rfl)
theorem wrap : (Tryz.f6).isWrapper Tryz.pinned.checked.prog Rows.streamChainUptoRow.wrapper Rows.streamChainUptoRow.mainSum:=by unfold Func.isWrapper;first | (rw [if_pos (by decide +kernel)];kernel_rfl) | (rw [if_neg (by decide +kernel)];exact ⟨rfl,rfl⟩)
theorem goes : false = Rows.streamChainUptoRow.goesBy Tryz.pinned.checked.prog:=by kernel_rfl
theorem said : Rows.StreamChainUptoSaid:=
 OpenClaim.holds_of_cond 6 Tryz.f6 rfl rfl rfl rfl rfl rfl rfl ⟨rfl,rfl,rfl,rfl,rfl⟩ rfl rfl rfl rfl rfl named Tryz.func6 closed
  inst wrap
  (fun os started H enc _ F=>by rw [OpenClaim.pre_eq_preRow];exact lifted os started H enc F)
theorem plain (f : FuncId) (fn : Func) (hf : Tryz.pinned.checked.prog.funcNamed "stockyard/stockyardlaw08.StreamChain" = some f) (hfn : Tryz.pinned.checked.prog.funcs[f]? = some fn) :
  false = Tryz.pinned.checked.prog.looks [] ∧ ∀ (j : Nat) t,fn.params[j]? = some t → Tryz.pinned.checked.prog.wantsStandIn t = false:=by
 obtain rfl : f = 6 := Option.some.inj ((show Tryz.prog.funcNamed "stockyard/stockyardlaw08.StreamChain" = some 6 from named2).symm.trans hf) |>.symm
 obtain rfl : fn = Tryz.f6:=(Option.some.inj (Tryz.func6.symm.trans hfn)).symm
 refine ⟨factLooks,fun j t ht=>?_⟩
 rw [Tryz.params6] at ht
 have hm:=Array.mem_of_getElem? ht
 simp only [List.mem_toArray,List.mem_cons,List.not_mem_nil,or_false] at hm
 rcases hm with rfl | rfl | rfl
 ·exact (show Tryz.prog.wantsStandIn 22 = false by kernel_rfl)
 ·exact (show Tryz.prog.wantsStandIn 9 = false by kernel_rfl)
 ·exact (show Tryz.prog.wantsStandIn 9 = false by kernel_rfl)
theorem card : Rows.StreamChainUptoCardSaid:=
 Claim7.holds_tied_plain_at .later [] _ _ _ _ said (fun _ h=>by cases h) (by kernel_rfl) (fun _ h=>by cases h) streamChainUpto_row_tie rfl ⟨rfl,rfl⟩ (by kernel_rfl) rfl plain goes
end Go.Proofs.YtdcdabbepnahnaaGreatDoor.streamChainUpto
