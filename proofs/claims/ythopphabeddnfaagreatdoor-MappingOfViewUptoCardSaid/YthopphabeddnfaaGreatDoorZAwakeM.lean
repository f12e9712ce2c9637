/- Walk: awake of the laws of mappings. -/
import Derived.Deep.RegionHeld3
import Derived.Test.YthopphabeddnfaaGreatDoorZCommonP
import Derived.Test.YthopphabeddnfaaGreatDoorZRegB
import Derived.Test.YthopphabeddnfaaGreatDoorZMapA
import Derived.Test.YthopphabeddnfaaGreatDoorZRed3W
import Derived.Test.YthopphabeddnfaaGreatDoorZPutA
import Derived.Test.YthopphabeddnfaaGreatDoorZMapMem
import Derived.Test.YthopphabeddnfaaGreatDoorZMapO
import Derived.Test.YthopphabeddnfaaGreatDoorZCheckV
import Derived.Test.YthopphabeddnfaaGreatDoorZFwdM
import Derived.Test.YthopphabeddnfaaGreatDoorZBwdM
set_option linter.unusedVariables false
set_option linter.unusedSimpArgs false
namespace Go.Proofs.YthopphabeddnfaaGreatDoor
open Go Go.RowKit Sy

theorem results_cell_tmpsM {fn : Func} {p q r : Tmp} {ty : TypeId} (h : fn.results = #[.cell p ty,.tmp q,.tmp r]) (tmps : Array Value) (P : Program) (w : World) :
  (results fn tmps).run P w = ((asAddr (tmps.getD p undef)).run P w).andThen fun a w₁=>((loadVar ty a).run P w₁).andThen fun v w₂=>.ok (.tuple #[v,tmps.getD q undef,tmps.getD r undef]) w₂:=by
 simp only [results,h]
 simp [Sem.run_bind,Result.andThen]
set_option maxHeartbeats 8000000 in
theorem mreduce_far (b : Pat) (ps : List Pat) (A : Option Addr) (c : Nat) (PA : Option Addr) (n N pc gm : Nat) (re : Bool) (w : World) (hb : PatA w A c b) (hps : PatsR w PA ps) (hn : b.parts.length = n) (hre : b.rest = re) (hN : ps.length = N) (gb : patErr b = 0) (gp : ∀ p ∈ ps,patErr p = 0) (hgm : (redL b ps).length = gm) (h64 : 64 < gm) :
  Calls Tryz.prog 57 #[.agg #[.slice A n c,.bool re],.slice PA N pc] w fun e w'=>e = .returned (.tuple #[.agg #[.slice none 0 0,.bool false,.slice none 0 0],.bool false,.int .i64 72]) ∧ Calm w w':=by
 obtain ⟨w1,hw1⟩ : ∃ w1,w1 = (w.alloc (.cells #[.slice A n c,.bool re] 37)).alloc (.cells #[.slice none 0 0,.bool false,.slice none 0 0] 48):=⟨_,rfl⟩
 have hc1 : Calm w w1:=by rw [hw1];exact ((Calm.refl w).alloc _).alloc _
 have hz : ThreeB w1 (w.heap.size + 1) (.slice none 0 0) (.bool false) (.slice none 0 0):=by
  rw [hw1]
  have:=ThreeB.new (w.alloc (.cells #[.slice A n c,.bool re] 37)) (.slice none 0 0) (.bool false) (.slice none 0 0) 48
  simpa using this
 have hN2 : gm ≤ N:=by rw [← hgm,← hN];exact redL_len _ _
 have KR : Hid (∀ W,Calm w1 W → Calls Tryz.prog 15 #[.agg #[.slice A n c,.bool re],.slice PA N pc] W fun e w'=>(∃ A2 c2 HA2 hc2,e = .returned (.agg #[.slice A2 n c2,.bool re,.slice HA2 gm hc2])) ∧ Calm W w'):=fun W hW=>by
  have:=reduce_c b ps A c PA N pc W (hb.calm (hc1.trans hW)) (hps.calm (hc1.trans hW)) hN gb gp
  unfold RedEnd at this
  rw [hn,hre,hgm] at this
  exact this.mono fun e w' ⟨⟨A2,c2,HA2,hc2,h1,_,_⟩,h2⟩=>⟨⟨A2,c2,HA2,hc2,h1⟩,h2⟩
 have HW:=Lib.hid hw1
 have HC:=Lib.hid hc1
 have HZ:=Lib.hid hz
 have hgi : (64 : Int) < (gm : Int):=by omega
 clear hw1 hc1 hz hb hps hn hre hN gb gp hgm
 go_enter Tryz.func57,Tryz.ntmps57
 go_wp2_with fail
 rw [← HW.out]
 refine (KR.out w1 (Calm.refl _)).mono ?_
 rintro e w3 ⟨⟨A2,c2,HA2,hc2,rfl⟩,hc3⟩
 have h3:=HZ.out.calm hc3
 have z0:=h3.c0
 have z1:=h3.c1
 have z2:=h3.c2
 have f0:=h3.fz 0
 have f1:=h3.fz 1
 have f2:=h3.fz 2
 have hlt:=h3.lt
 go_wp2_with fail
 refine bodyPost_ret (v:=.tuple #[.agg #[.slice none 0 0,.bool false,.slice none 0 0],.bool false,.int .i64 72]) ?_ rfl ⟨rfl,by first | exact (calm3' (HC.out.trans hc3) (by omega) _ _ _).alloc _ | exact calm3' ((HC.out.trans hc3).alloc _) (by omega) _ _ _⟩
 rw [results_cell_tmpsM rfl]
 go_simp
end Go.Proofs.YthopphabeddnfaaGreatDoor
set_option linter.unusedVariables false
set_option linter.unusedSimpArgs false
namespace Go.Proofs.YthopphabeddnfaaGreatDoor
open Go Go.RowKit Sy

set_option maxHeartbeats 8000000 in
theorem mreduce_near (b : Pat) (ps : List Pat) (A : Option Addr) (c : Nat) (PA : Option Addr) (n N pc gm : Nat) (re vz : Bool) (w : World) (hb : PatA w A c b) (hps : PatsR w PA ps) (hn : b.parts.length = n) (hre : b.rest = re) (hN : ps.length = N) (gb : patErr b = 0) (gp : ∀ p ∈ ps,patErr p = 0) (hgm : (redL b ps).length = gm) (h64 : ¬ 64 < gm) (hvz : (leastLen b (redL b ps) == 0) = vz) :
  Calls Tryz.prog 57 #[.agg #[.slice A n c,.bool re],.slice PA N pc] w fun e w'=>(∃ A2 c2 HA2 hc2,e = .returned (.tuple #[.agg #[.slice A2 n c2,.bool re,.slice HA2 gm hc2],.bool (!vz),.int .i64 0]) ∧ NewS w' w.heap.size A2 c2 b.parts ∧ PatsN w' w.heap.size HA2 hc2 (redL b ps)) ∧ Calm w w':=by
 obtain ⟨w1,hw1⟩ : ∃ w1,w1 = (w.alloc (.cells #[.slice A n c,.bool re] 37)).alloc (.cells #[.slice none 0 0,.bool false,.slice none 0 0] 48):=⟨_,rfl⟩
 have hc1 : Calm w w1:=by rw [hw1];exact ((Calm.refl w).alloc _).alloc _
 obtain ⟨R,hR⟩ : ∃ R,w.heap.size + 1 = R:=⟨_,rfl⟩
 have hz : RgB w1 R (.slice none 0 0) (.bool false) (.slice none 0 0):=by
  rw [hw1,← hR]
  have:=RgB.new (w.alloc (.cells #[.slice A n c,.bool re] 37)) (.slice none 0 0) (.bool false) (.slice none 0 0)
  simpa using this
 have hRw : w.heap.size ≤ R:=by omega
 have hR1 : w1.heap.size = R + 1:=by rw [hw1,← hR];simp [go_sem]
 have KR : Hid (∀ W,Calm w1 W → Calls Tryz.prog 15 #[.agg #[.slice A n c,.bool re],.slice PA N pc] W fun e w'=>(∃ A2 c2 HA2 hc2,e = .returned (.agg #[.slice A2 n c2,.bool re,.slice HA2 gm hc2]) ∧ NewS w' W.heap.size A2 c2 b.parts ∧ PatsN w' W.heap.size HA2 hc2 (redL b ps)) ∧ Calm W w'):=fun W hW=>by
  have:=reduce_c b ps A c PA N pc W (hb.calm (hc1.trans hW)) (hps.calm (hc1.trans hW)) hN gb gp
  unfold RedEnd at this
  rw [hn,hre,hgm] at this
  exact this
 have KV : Hid (∀ W A2 c2 HA2 hc2,NewS W (R + 1) A2 c2 b.parts → PatsN W (R + 1) HA2 hc2 (redL b ps) → Calls Tryz.prog 16 #[.agg #[.slice A2 n c2,.bool re],.slice HA2 gm hc2] W fun e w'=>e = .returned (.bool vz) ∧ Calm W w'):=fun W A2 c2 HA2 hc2 h1 h2=>
  voidp_c b (redL b ps) vz n gm re A2 c2 HA2 hc2 W (h1.u.toR hb.r.len hb.r.each) (h2.reads (by omega)) hvz hn hgm hre
 have HW:=Lib.hid hw1
 have HC:=Lib.hid hc1
 have HZ:=Lib.hid hz
 have HR:=Lib.hid hR
 have HR1:=Lib.hid hR1
 obtain ⟨gs,hgs⟩ : ∃ gs,redL b ps = gs:=⟨_,rfl⟩
 rw [hgs] at KR KV ⊢
 obtain ⟨bp,hbp⟩ : ∃ bp,b.parts = bp:=⟨_,rfl⟩
 rw [hbp] at KR KV ⊢
 have hgi : ¬ (64 : Int) < (gm : Int):=by omega
 clear hw1 hc1 hz hb hps hn hre hN gb gp hgm hR hR1 hvz hgs hbp
 go_enter Tryz.func57,Tryz.ntmps57
 go_wp2_with fail
 rw [← HW.out,HR.out]
 refine (KR.out w1 (Calm.refl _)).mono ?_
 rintro e w3 ⟨⟨A2,c2,HA2,hc2,rfl,hS3,hP3⟩,hc3⟩
 obtain ⟨w4,hw4⟩ : ∃ w4,w4 = w3.alloc (.cells #[.slice A2 n c2,.bool re,.slice HA2 gm hc2] 48):=⟨_,rfl⟩
 have hc34 : Calm w3 w4:=by
  show Below _ _ _
  rw [hw4]
  exact (Calm.refl _).alloc _
 obtain ⟨G,hG⟩ : ∃ G,w3.heap.size = G:=⟨_,rfl⟩
 have hg4 : RgB w4 G (.slice A2 n c2) (.bool re) (.slice HA2 gm hc2):=by rw [hw4,← hG];exact RgB.new w3 _ _ _
 have hRG : R < G:=by have:=hc3.size;have:=HR1.out;omega
 have hS4 : Hid (NewS w4 (R + 1) A2 c2 bp):=(HR1.out ▸ hS3).calm hc34
 have hP4 : Hid (PatsN w4 (R + 1) HA2 hc2 gs):=(HR1.out ▸ hP3).calm hc34
 have HC4 : Hid (Calm w w4):=HC.out.trans (Calm.trans hc3 hc34)
 have HZ4 : Hid (RgB w4 R (.slice none 0 0) (.bool false) (.slice none 0 0)):=HZ.out.calm (Calm.trans hc3 hc34)
 have HG4:=Lib.hid hg4
 have HW4:=Lib.hid hw4
 have HGs:=Lib.hid hG
 have g0:=hg4.c0
 have g1:=hg4.c1
 have g2:=hg4.c2
 have z0:=HZ4.out.c0
 have z1:=HZ4.out.c1
 have z2:=HZ4.out.c2
 have f0:=HZ4.out.f 0
 have f1:=HZ4.out.f 1
 have f2:=HZ4.out.f 2
 have hne : ¬ G = R:=by omega
 have hne2 : ¬ R = G:=by omega
 clear hS3 hP3 hc3 hc34 hg4 hw4 hG
 go_wp2_with fail
 rw [← HW4.out,HGs.out]
 have HK : Hid (∀ W : World,Calm w4 W → W.cell? ⟨G,0,none⟩ = some (.slice A2 n c2) ∧ W.cell? ⟨G,1,none⟩ = some (.bool re) ∧ W.cell? ⟨G,2,none⟩ = some (.slice HA2 gm hc2)):=fun W hW=>⟨(HG4.out.calm hW).c0,(HG4.out.calm hW).c1,(HG4.out.calm hW).c2⟩
 have HSt : Hid (∀ W u0 u1 u2,Calm w4 W → (((W.setCell ⟨R,0,none⟩ u0).setCell ⟨R,1,none⟩ u1).setCell ⟨R,2,none⟩ u2).cell? ⟨G,0,none⟩ = some (.slice A2 n c2) ∧ (((W.setCell ⟨R,0,none⟩ u0).setCell ⟨R,1,none⟩ u1).setCell ⟨R,2,none⟩ u2).cell? ⟨G,1,none⟩ = some (.bool re) ∧ (((W.setCell ⟨R,0,none⟩ u0).setCell ⟨R,1,none⟩ u1).setCell ⟨R,2,none⟩ u2).cell? ⟨G,2,none⟩ = some (.slice HA2 gm hc2)):=fun W u0 u1 u2 hW=>by
  have h : RgB (((W.setCell ⟨R,0,none⟩ u0).setCell ⟨R,1,none⟩ u1).setCell ⟨R,2,none⟩ u2) G (.slice A2 n c2) (.bool re) (.slice HA2 gm hc2):=(HG4.out.calm hW).block (by simp [World.setCell,Array.getElem?_modify,hne,hne2])
  exact ⟨h.c0,h.c1,h.c2⟩
 have KV2 : Hid (∀ W,Calm w4 W → Calls Tryz.prog 16 #[.agg #[.slice A2 n c2,.bool re],.slice HA2 gm hc2] W fun e w'=>e = .returned (.bool vz) ∧ Calm w4 w'):=fun W hW=>(KV.out W _ _ _ _ (hS4.out.calm hW) (hP4.out.calm hW)).mono fun e w' ⟨h1,h2⟩=>⟨h1,hW.trans h2⟩
 have HEnd : Hid (∀ W u0 u1 u2,Calm w4 W → NewS (((W.setCell ⟨R,0,none⟩ u0).setCell ⟨R,1,none⟩ u1).setCell ⟨R,2,none⟩ u2) w.heap.size A2 c2 bp ∧ PatsN (((W.setCell ⟨R,0,none⟩ u0).setCell ⟨R,1,none⟩ u1).setCell ⟨R,2,none⟩ u2) w.heap.size HA2 hc2 gs ∧ Calm w (((W.setCell ⟨R,0,none⟩ u0).setCell ⟨R,1,none⟩ u1).setCell ⟨R,2,none⟩ u2)):=fun W u0 u1 u2 hW=>
  ⟨((hS4.out.calm hW).set3 (Nat.lt_succ_self R) _ _ _).mono (by omega),((hP4.out.calm hW).set3 (Nat.lt_succ_self R) _ _ _).mono (by omega),calm3' (HC4.out.trans hW) hRw _ _ _⟩
 go_region_held3 (fun W=>W.cell? ⟨G,0,none⟩ = some (.slice A2 n c2) ∧ W.cell? ⟨G,1,none⟩ = some (.bool re) ∧ W.cell? ⟨G,2,none⟩ = some (.slice HA2 gm hc2))
  (first
   |with_reducible exact HSt.out _ _ _ _ hc48
   |with_reducible exact HK.out _ hc48
   |with_reducible exact HK.out _ (Calm.refl _)
   |with_reducible exact HK.out _ (Below.drew (Calm.refl _))
   |go_keep)
  (first
   |(go_at_call 16;(first | refine (KV2.out _ (Below.drew (Calm.refl _))).mono ?_ | refine (KV2.out _ (Calm.refl _)).mono ?_);rintro e w8 ⟨rfl,hc48⟩;have hz8:=HZ4.out.calm hc48;have z0:=hz8.c0;have z1:=hz8.c1;have z2:=hz8.c2;have f0:=hz8.f 0;have f1:=hz8.f 1;have f2:=hz8.f 2))
 have HE:=Lib.hid (HEnd.out w8 (.slice A2 n c2) (.bool re) (.slice HA2 gm hc2) hc48)
 go_wp2_with fail
 refine bodyPost_ret (v:=.tuple #[.agg #[.slice A2 n c2,.bool re,.slice HA2 gm hc2],.bool (!vz),.int .i64 0]) ?_ rfl ⟨⟨A2,c2,HA2,hc2,rfl,HE.out.1,HE.out.2.1⟩,HE.out.2.2⟩
 rw [results_cell_tmpsM rfl]
 go_simp
end Go.Proofs.YthopphabeddnfaaGreatDoor
set_option linter.unusedVariables false
set_option linter.unusedSimpArgs false
namespace Go.Proofs.YthopphabeddnfaaGreatDoor
open Go Go.RowKit Sy

theorem mreduce_c (b : Pat) (ps : List Pat) (A : Option Addr) (c : Nat) (PA : Option Addr) (n N pc : Nat) (re : Bool) (w : World) (hb : PatA w A c b) (hps : PatsR w PA ps) (hn : b.parts.length = n) (hre : b.rest = re) (hN : ps.length = N) (gb : patErr b = 0) (gp : ∀ p ∈ ps,patErr p = 0) :
  Calls Tryz.prog 57 #[.agg #[.slice A n c,.bool re],.slice PA N pc] w fun e w'=>RdEnd b ps w.heap.size e w' ∧ Calm w w':=by
 unfold RdEnd
 by_cases h64 : 64 < (redL b ps).length
 ·refine (mreduce_far b ps A c PA n N pc _ re w hb hps hn hre hN gb gp rfl h64).mono ?_
  rintro e w' ⟨h1,h2⟩
  rw [if_pos h64]
  exact ⟨h1,h2⟩
 ·refine (mreduce_near b ps A c PA n N pc _ re _ w hb hps hn hre hN gb gp rfl h64 rfl).mono ?_
  rintro e w' ⟨⟨A2,c2,HA2,hc2,h1,h2,h3⟩,h4⟩
  rw [if_neg h64]
  subst hn hre
  exact ⟨⟨A2,c2,HA2,hc2,h1,h2,h3⟩,h4⟩
end Go.Proofs.YthopphabeddnfaaGreatDoor
set_option linter.unusedVariables false
set_option linter.unusedSimpArgs false
namespace Go.Proofs.YthopphabeddnfaaGreatDoor
open Go Go.RowKit Sy
def EntOut (es : List Ent) (er : Int) (B : Nat) (e : Ending) (w' : World) : Prop:=∃ A c,e = .returned (.tuple #[.slice A es.length c,.int .i64 er]) ∧ es.length ≤ c ∧ c ≤ 9223372036854775807 ∧ ∃ zs : List NewE,zs.map (·.e) = es ∧ ReadX encE 5 w' A zs ∧ ∀ z ∈ zs,EntN w' B z
theorem entOut_err (er : Int) (B : Nat) (w' : World) : EntOut [] er B (.returned (.tuple #[.slice none 0 0,.int .i64 er])) w':=⟨none,0,rfl,Nat.le_refl _,by omega,[],rfl,fun h=>absurd rfl h,fun z hz=>by cases hz⟩
theorem ResE.out {w0 : World} {es : List Ent} {e : Ending} {w' : World} (h : ResE w0 es e w') : EntOut (if 32 < es.length then [] else es) (if 32 < es.length then 72 else 0) w0.heap.size e w':=by
 unfold ResE at h
 split at h
 ·rename_i h1
  rw [if_pos h1,if_pos h1,h]
  exact entOut_err _ _ _
 ·rename_i h1
  rw [if_neg h1,if_neg h1]
  exact h
theorem PatsR.toU {w : World} {A : Option Addr} {ps : List Pat} (h : PatsR w A ps) : PatsU w A ps:=
 ⟨by have:=h.len;omega,fun h0=>by
  obtain ⟨b,o,hA,hb,hk⟩:=h.at_ h0
  refine ⟨b,o,hA,hb,fun k p hp=>?_⟩
  obtain ⟨Ak,ck,g1,g2,g3,g4,g5⟩:=hk k p hp
  exact ⟨Ak,ck,g1,g2,g3,g4,g5.toU⟩⟩
theorem colA_new {w0 w : World} (hc : Calm w0 w) : ColA w0 (w.alloc (.cells #[.slice none 0 0,.bool false] 68)) w.heap.size []:=.inl ⟨_,_,ColE.new hc,rfl,Nat.zero_le _⟩
theorem PutEnd.some {w0 w' : World} {G : Nat} {es : List Ent} {n : Rule} {ps : List Pat} {e : Ending} {o : Option Ent} (h : PutEnd w0 w' G es n ps e) (ho : putH n ps = some o) : e = .returned (.int .i64 0) ∧ ColA w0 w' G (es ++ o.toList):=by
 unfold PutEnd at h
 rw [ho] at h
 cases o with
 |none=>exact ⟨h.1,by simpa using h.2⟩
 |some x=>exact h
theorem PutEnd.none {w0 w' : World} {G : Nat} {es : List Ent} {n : Rule} {ps : List Pat} {e : Ending} (h : PutEnd w0 w' G es n ps e) (ho : putH n ps = none) : e = .returned (.int .i64 72) ∧ ColA w0 w' G es:=by
 unfold PutEnd at h
 rw [ho] at h
 exact h
theorem take_filterMap {α β : Type} {f : α → Option β} {l : List α} {k : Nat} {x : α} (h : l[k]? = some x) : (l.take (k + 1)).filterMap f = (l.take k).filterMap f ++ (f x).toList:=by
 rw [take_snoc h,List.filterMap_append]
 rfl
end Go.Proofs.YthopphabeddnfaaGreatDoor
set_option linter.unusedVariables false
set_option linter.unusedSimpArgs false
namespace Go.Proofs.YthopphabeddnfaaGreatDoor
open Go Go.RowKit Sy

theorem inv_put {x : Ent} {ks : List Pat} (h : rightHs x.rule x.hs = some ks) (h64 : ks.length ≤ 64) : putH ⟨false,x.right,x.left⟩ ks = some (invOf x):=by
 have h1:=redL_len x.right ks
 unfold putH invOf rightG
 rw [h]
 show (if 64 < (redL x.right ks).length then _ else _) = _
 rw [if_neg (by omega)]
 simp only [Option.map_some]
 split <;> rfl
set_option maxHeartbeats 8000000 in
theorem minv_c (es : List Ent) (n c : Nat) (A : Option Addr) (w : World) (h : EntsA w A es) (hcn : n ≤ c) (hcc : c ≤ 9223372036854775807) (hn : es.length = n) (hsm : ∀ x ∈ es,SmallE x) :
  Calls Tryz.prog 12 #[.slice A n c] w fun e w'=>EntOut (invE es).1 (invE es).2 w.heap.size e w' ∧ Calm w w':=by
 have hl : n ≤ 1048576:=by rw [← hn];exact h.1
 obtain ⟨er,her⟩ : ∃ er,(mapE es).2 = er:=⟨_,rfl⟩
 obtain ⟨w1,hw1⟩ : ∃ w1,w1 = w.alloc (.cells #[.slice A n c] 24):=⟨_,rfl⟩
 have hc1 : Calm w w1:=by rw [hw1];exact (Calm.refl w).alloc _
 have KC:=check1_c es n c w.heap.size A er w1 (h.calm hc1) hcn hcc hsm hn her (by rw [hw1];simp) (by rw [hw1];simp)
 have HV0 : er ≠ 0 → Hid (invE es = ([],er)):=fun h0=>by
  show invE es = _
  unfold invE
  rw [her,if_pos h0]
 have HV1 : er = 0 → Hid (invE es = (es.filterMap invOf,0) ∧ Mapping es):=fun h0=>by
  refine ⟨?_,(mapE_zero (her.trans h0)).1⟩
  show invE es = _
  unfold invE
  rw [her,if_neg (by simpa using h0)]
 have HE:=Lib.hid h
 have HN:=Lib.hid hn
 have HS:=Lib.hid hsm
 have HW:=Lib.hid hw1
 have HC:=Lib.hid hc1
 have HKC:=Lib.hid KC
 clear h hn hsm hw1 hc1 KC her
 go_enter Tryz.func12,Tryz.ntmps12
 by_cases h0 : er = 0
 ·subst h0
  have HV:=HV1 rfl
  clear HV0 HV1
  go_wp2_with fail
  rw [← HW.out]
  refine HKC.out.mono ?_
  rintro e w2 ⟨rfl,hc2⟩
  obtain ⟨G,hG⟩ : ∃ G,w2.heap.size = G:=⟨_,rfl⟩
  obtain ⟨w3,hw3⟩ : ∃ w3,w3 = w2.alloc (.cells #[.slice none 0 0,.bool false] 68):=⟨_,rfl⟩
  have HCol : Hid (ColA w w3 G []):=by
   show ColA w w3 G []
   rw [hw3,← hG]
   exact colA_new (HC.out.trans hc2)
  have HW3:=Lib.hid hw3
  have HG:=Lib.hid hG
  clear hc2 hw3 hG
  go_wp2_with fail
  rw [← HW3.out,HG.out]
  go_loopw [19] (fun u wr=>∃ k : Nat,k ≤ n ∧ u = .int .i64 k ∧ Hid (ColA w wr G ((es.take k).filterMap invOf))) (fun u _=>n - (intOf u).toNat)
  case atStart=>exact ⟨0,Nat.zero_le _,rfl,HCol.out⟩
  case round=>
   obtain ⟨k,hk,rfl,HCr⟩:=hrel
   obtain ⟨wq,rfl⟩ : ∃ wq,wq = wr:=⟨_,rfl⟩
   by_cases hlt : k < n
   ·obtain ⟨b,o,z,rfl,hb,hz,c0,c1,c2,c3,c4,hua⟩:=(HE.out.calm HCr.out.calm).get (k:=k) (by rw [HN.out];exact hlt)
    have hmem:=List.mem_of_getElem? hz
    have hgd:=HV.out.2.good z.e hmem
    have hss:=HS.out _ hmem
    have hu:=hua.few hss hgd.2
    obtain ⟨g,hgr⟩:=HV.out.2.right z.e hmem
    obtain ⟨ks,hks,_⟩:=Option.map_eq_some_iff.1 hgr
    have hkl : ks.length ≤ 64:=by
     have h1:=(rightHs_good hks).2
     have h2 : z.e.reg.hs.length ≤ 64:=(gErr_zero hgd.2).2.2
     have e : z.e.reg.hs = z.e.hs:=rfl
     rw [e] at h2
     omega
    have hkg:=(rightHs_good hks).1
    have hpt:=inv_put hks hkl
    have htf : (es.take (k + 1)).filterMap invOf = (es.take k).filterMap invOf ++ (invOf z.e).toList:=take_filterMap hz
    have htw : Sy.Twin z.e.left z.e.right:=ruleErr_twin.1 hgd.1
    obtain ⟨nl,hnl⟩ : ∃ nl,z.e.left.parts.length = nl:=⟨_,rfl⟩
    obtain ⟨nr,hnr⟩ : ∃ nr,z.e.right.parts.length = nr:=⟨_,rfl⟩
    obtain ⟨lr,hlr⟩ : ∃ lr,z.e.left.rest = lr:=⟨_,rfl⟩
    obtain ⟨rr,hrr⟩ : ∃ rr,z.e.right.rest = rr:=⟨_,rfl⟩
    obtain ⟨hn,hhn⟩ : ∃ hn,z.e.hs.length = hn:=⟨_,rfl⟩
    obtain ⟨m,hm⟩ : ∃ m,ks.length = m:=⟨_,rfl⟩
    rw [hnl] at c0
    rw [hlr] at c1
    rw [hnr] at c2
    rw [hrr] at c3
    rw [hhn] at c4
    have KR : Hid (∀ W,Calm wq W → Calls Tryz.prog 19 #[entV z.LA z.RA z.HA nl z.lc nr z.rc hn z.hc lr rr] W fun e w'=>(∃ KA kc,e = .returned (.tuple #[.agg #[.slice z.RA nr z.rc,.bool rr,.slice KA m kc],.int .i64 0]) ∧ PatsN w' W.heap.size KA kc ks) ∧ Calm W w'):=fun W hW=>by
     have:=right_c z nl nr hn lr rr z.HA W (hu.calm hW) hss hgd.1 hgd.2 hnl hnr hhn hlr hrr rfl
     unfold RightEnd at this
     rw [hks] at this
     simp only [hnr,hrr,hm] at this
     exact this
    have KP : Hid (∀ W KA kc B,Calm wq W → PatsN W B KA kc ks → Calls Tryz.prog 32 #[.pointer (some ⟨G,0,none⟩),.agg #[.bool false,.slice z.RA nr z.rc,.bool rr,.slice z.LA nl z.lc,.bool lr],.slice KA m kc] W fun e w'=>e = .returned (.int .i64 0) ∧ ColA w w' G ((es.take k).filterMap invOf ++ (invOf z.e).toList)):=fun W KA kc B hW hP=>by
     have huW:=hu.calm hW
     have:=put_k w wq W G ((es.take k).filterMap invOf) ⟨false,z.e.right,z.e.left⟩ ks ⟨z.RA,z.rc,z.LA,z.lc⟩ false nr nl m kc rr lr KA HCr.out hW huW.r huW.l hnr hnl hrr hlr (fun W2 hW2=>mreduce_c z.e.right ks z.RA z.rc KA nr m kc rr W2 (huW.r.calm hW2) ((hP.calm hW2).reads (by omega)) hnr hrr hm htw.rp hkg)
     exact this.mono fun e w' hp=>hp.1.some hpt
    have HTf:=Lib.hid htf
    obtain ⟨B,hB⟩ : ∃ B,wq.heap.size = B:=⟨_,rfl⟩
    obtain ⟨wb,hwb⟩ : ∃ wb,wb = wq.alloc (.cells #[.slice z.LA nl z.lc,.bool lr,.slice z.RA nr z.rc,.bool rr,.slice z.HA hn z.hc] 40):=⟨_,rfl⟩
    have hf : FiveB wb B (.slice z.LA nl z.lc) (.bool lr) (.slice z.RA nr z.rc) (.bool rr) (.slice z.HA hn z.hc):=by
     rw [hwb,← hB]
     exact FiveB.new wq _ _ _ _ _ _
    have hcb : Calm wq wb:=by
     show Below _ _ _
     rw [hwb]
     exact (Calm.refl _).alloc _
    have HF:=Lib.hid hf
    have HCb:=Lib.hid hcb
    have HWb:=Lib.hid hwb
    have HBB:=Lib.hid hB
    clear hz hu hua hnl hnr hlr hrr hhn hf hcb hwb hB hmem hgd hss hgr hks hkl hkg hpt htf htw hm
    go_wp2_with fail
    rw [← HWb.out]
    refine (KR.out wb HCb.out).mono ?_
    rintro e w3 ⟨⟨KA,kc,rfl,hP⟩,hc3⟩
    rw [HBB.out]
    clear c0 c1 c2 c3 c4
    obtain ⟨w4,hw4⟩ : ∃ w4,w4 = w3.alloc (.cells #[.slice z.RA nr z.rc,.bool rr,.slice KA m kc] 48):=⟨_,rfl⟩
    have hc34 : Calm w3 w4:=by
     show Below _ _ _
     rw [hw4]
     exact (Calm.refl _).alloc _
    have hf3:=HF.out.calm hc3
    have c0:=hf3.c0
    have c1:=hf3.c1
    have c2:=hf3.c2
    have c3:=hf3.c3
    have hlt3:=hf3.lt
    have HP4:=Lib.hid (hP.calm hc34)
    have HC4 : Hid (Calm wq w4):=HCb.out.trans (Calm.trans hc3 hc34)
    have HW4:=Lib.hid hw4
    clear hP hc3 hc34 hw4 hf3
    go_wp2_with fail
    rw [← HW4.out]
    refine (KP.out w4 KA kc _ HC4.out HP4.out).mono ?_
    rintro e w5 ⟨rfl,hcol⟩
    have HCol5:=Lib.hid hcol
    clear hcol c0 c1 c2 c3 hlt3
    go_wp2_with fail
    go_roundw
    case rel=>exact ⟨k + 1,by omega,by go_num,by rw [HTf.out];exact HCol5.out⟩
    case measure=>simp [intOf];omega
   ·obtain rfl : k = n:=by omega
    have HRs:=Lib.hid (resultE_a w wq G _ HCr.out)
    have HFin : Hid ((es.take k).filterMap invOf = (invE es).1 ∧ (invE es).2 = 0 ∧ ¬ 32 < ((es.take k).filterMap invOf).length):=by
     have e1 : es.take k = es:=by rw [List.take_of_length_le];rw [HN.out];omega
     rw [HV.out.1,e1]
     refine ⟨rfl,rfl,?_⟩
     have:=List.length_filterMap_le invOf es
     have:=HV.out.2.few
     omega
    go_wp2_with fail
    refine HRs.out.mono ?_
    rintro e w6 ⟨hR,hc6⟩
    have hO:=hR.out
    rw [if_neg HFin.out.2.2,if_neg HFin.out.2.2,HFin.out.1] at hO
    obtain ⟨A6,c6,rfl,r1,r2,r3⟩:=hO
    have HD : Hid (EntOut (invE es).1 (invE es).2 w.heap.size (.returned (.tuple #[.slice A6 (invE es).1.length c6,.int .i64 0])) w6):=by
     rw [HFin.out.2.1]
     exact ⟨A6,c6,rfl,r1,r2,r3⟩
    clear r1 r2 r3 hR
    generalize (invE es).1.length = L6 at HD ⊢
    go_wp2_with fail
    go_ret2
    exact ⟨HD.out,hc6⟩
 ·have HV:=HV0 h0
  have hb : (er != 0) = true:=by simpa using h0
  clear HV0 HV1 h0
  go_wp2_with fail
  rw [← HW.out]
  refine HKC.out.mono ?_
  rintro e w2 ⟨rfl,hc2⟩
  go_wp2_with fail
  go_ret2
  exact ⟨by rw [HV.out];exact entOut_err _ _ _,HC.out.trans hc2⟩
end Go.Proofs.YthopphabeddnfaaGreatDoor
set_option linter.unusedVariables false
set_option linter.unusedSimpArgs false
namespace Go.Proofs.YthopphabeddnfaaGreatDoor
open Go Go.RowKit Sy

def exM : List Ent:=[⟨⟨[[100]],true⟩,⟨[[99]],true⟩,[⟨[[100],[42,46,116,109,112]],false⟩]⟩]
theorem exM_inv : invE exM = ([⟨⟨[[99]],true⟩,⟨[[100]],true⟩,[⟨[[99],[42,46,116,109,112]],false⟩]⟩],0):=by decide +kernel
theorem exM_ok : (mapE exM).2 = 0:=by decide +kernel
theorem exM_bwd : bwS exM [47,47,99,47,97] = some [47,47,100,47,97]:=by decide +kernel
theorem exM_small : ∀ x ∈ exM,SmallE x:=fun x hx=>by
 rw [exM,List.mem_singleton] at hx
 subst hx
 exact ⟨by decide,by decide,by decide,by decide,by decide⟩
theorem newm_at {v w' : World} {cs : Array Value} {t : TypeId} {n k : Nat} {x : Value} (hc : Calm (v.alloc (.cells cs t)) w') (hs : v.heap.size = n) (h : cs[k]? = some x) : w'.cell? ⟨n,k,none⟩ = some x:=by
 subst hs
 refine hc.at_ ?_ (by simp)
 rw [cell_of_row _ v.heap.size k _ _ _ (heap_alloc_new v _)]
 exact h
def exMW (w : World) : World:=
 ((((((w.alloc (Obj.cells #[Value.string { data:=#[100] }] 9)).alloc (Obj.cells #[Value.string { data:=#[99] }] 9)).alloc (Obj.cells #[Value.slice (some { block:=w.heap.size,off:=0 }) 1 1,Value.bool true] 37)).alloc
  (Obj.cells #[Value.slice (some { block:=w.heap.size + 1,off:=0 }) 1 1,Value.bool true] 37)).alloc (Obj.cells #[Value.string { data:=#[100] },Value.string { data:=#[42,46,116,109,112] }] 9)).alloc
  (Obj.cells #[Value.slice (some { block:=w.heap.size + 1 + 1 + 1 + 1,off:=0 }) 2 2,Value.bool false] 37)).alloc
  (Obj.cells #[Value.slice (some { block:=w.heap.size,off:=0 }) 1 1,Value.bool true,Value.slice (some { block:=w.heap.size + 1,off:=0 }) 1 1,Value.bool true,Value.slice (some { block:=w.heap.size + 1 + 1 + 1 + 1 + 1,off:=0 }) 1 1] 40)
theorem exMW_calm (w : World) : Calm w (exMW w):=(((((((Calm.refl w).alloc _).alloc _).alloc _).alloc _).alloc _).alloc _).alloc _
theorem exMW_size (w : World) : (exMW w).heap.size = w.heap.size + 7:=by simp [exMW]
theorem exMW_ents (w : World) : EntsA (exMW w) (some ⟨w.heap.size + 1 + 1 + 1 + 1 + 1 + 1,0,none⟩) exM:=by
 refine ⟨by decide,[⟨some ⟨w.heap.size,0,none⟩,1,some ⟨w.heap.size + 1,0,none⟩,1,some ⟨w.heap.size + 1 + 1 + 1 + 1 + 1,0,none⟩,1,⟨⟨[[100]],true⟩,⟨[[99]],true⟩,[⟨[[100],[42,46,116,109,112]],false⟩]⟩⟩],rfl,fun _=>⟨_,0,rfl,by rw [exMW_size];omega,fun k x hk i u hu=>?_⟩,fun z hz=>?_⟩
 ·match k,hk with
  |0,hk=>
   obtain rfl:=Option.some.inj hk
   have key : ∀ i u,(#[Value.slice (some { block:=w.heap.size,off:=0 }) 1 1,Value.bool true,Value.slice (some { block:=w.heap.size + 1,off:=0 }) 1 1,Value.bool true,Value.slice (some { block:=w.heap.size + 1 + 1 + 1 + 1 + 1,off:=0 }) 1 1] : Array Value)[i]? = some u → (exMW w).cell? ⟨w.heap.size + 1 + 1 + 1 + 1 + 1 + 1,i,none⟩ = some u:=fun i u h=>
    newm_at (v:=(((((w.alloc _).alloc _).alloc _).alloc _).alloc _).alloc _) (Calm.refl _) (by simp) h
   rw [show 0 + 0 * 5 + i = i by omega]
   exact key i u (by simpa [encE] using hu)
 ·rw [List.mem_singleton] at hz
  subst hz
  refine ⟨⟨(by show 1 ≤ 8388608;decide),(by show ∀ l ∈ ([[100]] : List Str),l.length ≤ 8388608;decide),fun _=>⟨_,0,rfl,by rw [exMW_size];omega,fun k l hl=>?_⟩⟩,⟨(by show 1 ≤ 8388608;decide),(by show ∀ l ∈ ([[99]] : List Str),l.length ≤ 8388608;decide),fun _=>⟨_,0,rfl,by rw [exMW_size];omega,fun k l hl=>?_⟩⟩,⟨(by show 1 ≤ 8388608;decide),fun _=>⟨_,0,rfl,by rw [exMW_size];omega,fun k p hp=>?_⟩⟩,Nat.le_refl 1,Nat.le_refl 1,Nat.le_refl 1,(by show 1 ≤ 9223372036854775807;omega),(by show 1 ≤ 9223372036854775807;omega),(by show 1 ≤ 9223372036854775807;omega)⟩
  ·rw [Nat.zero_add]
   refine newm_at (v:=w) (((((((Calm.refl _).alloc _).alloc _).alloc _).alloc _).alloc _).alloc _) rfl ?_
   match k,hl with
   |0,hl=>cases hl;rfl
  ·rw [Nat.zero_add]
   refine newm_at (v:=w.alloc _) ((((((Calm.refl _).alloc _).alloc _).alloc _).alloc _).alloc _) (by simp) ?_
   match k,hl with
   |0,hl=>cases hl;rfl
  ·match k,hp with
   |0,hp=>
    obtain rfl:=Option.some.inj hp
    refine ⟨some ⟨w.heap.size + 1 + 1 + 1 + 1,0,none⟩,2,?_,?_,Nat.le_refl 2,(by show 2 ≤ 9223372036854775807;omega),⟨by decide,by decide,fun _=>⟨_,0,rfl,by rw [exMW_size];omega,fun k l hl=>?_⟩⟩⟩
    ·exact newm_at (v:=((((w.alloc _).alloc _).alloc _).alloc _).alloc _) ((Calm.refl _).alloc _) (by simp) rfl
    ·exact newm_at (v:=((((w.alloc _).alloc _).alloc _).alloc _).alloc _) ((Calm.refl _).alloc _) (by simp) rfl
    ·rw [Nat.zero_add]
     refine newm_at (v:=(((w.alloc _).alloc _).alloc _).alloc _) (((Calm.refl _).alloc _).alloc _) (by simp) ?_
     match k,hl with
     |0,hl=>cases hl;rfl
     |1,hl=>cases hl;rfl
structure ExI (w : World) (b o : Nat) (b2 o2 c1 c2 b3 o3 : Nat) : Prop where
 h : w.cell? ⟨b,o + 4,none⟩ = some (.slice (some ⟨b2,o2,none⟩) 1 c1)
 p : w.cell? ⟨b2,o2,none⟩ = some (.slice (some ⟨b3,o3,none⟩) 2 c2)
 s : w.cell? ⟨b3,o3,none⟩ = some (.string ⟨#[99]⟩)
 lt : b < w.heap.size ∧ b2 < w.heap.size ∧ b3 < w.heap.size
theorem ExI.calm {w w' : World} {b o b2 o2 c1 c2 b3 o3 : Nat} (h : ExI w b o b2 o2 c1 c2 b3 o3) (hc : Calm w w') : ExI w' b o b2 o2 c1 c2 b3 o3:=
 ⟨hc.at_ h.h h.lt.1,hc.at_ h.p h.lt.2.1,hc.at_ h.s h.lt.2.2,Nat.lt_of_lt_of_le h.lt.1 hc.size,Nat.lt_of_lt_of_le h.lt.2.1 hc.size,Nat.lt_of_lt_of_le h.lt.2.2 hc.size⟩
theorem exI_of {w' : World} {B : Nat} {e : Ending} (h : EntOut (invE exM).1 (invE exM).2 B e w') : ∃ b o c b2 o2 c1 c2 b3 o3,e = .returned (.tuple #[.slice (some ⟨b,o,none⟩) 1 c,.int .i64 0]) ∧ 1 ≤ c ∧ ExI w' b o b2 o2 c1 c2 b3 o3:=by
 rw [exM_inv] at h
 obtain ⟨A,c,rfl,h1,h2,zs,h3,h4,h5⟩:=h
 have hE : EntsR w' A [⟨⟨[[99]],true⟩,⟨[[100]],true⟩,[⟨[[99],[42,46,116,109,112]],false⟩]⟩]:=⟨zs,h3,h4,fun z hz=>(h5 z hz).u⟩
 obtain ⟨b,o,z,rfl,hb,hz,_,_,_,_,c4,hu⟩:=hE.get (k:=0) (by decide)
 have hze : z.e = ⟨⟨[[99]],true⟩,⟨[[100]],true⟩,[⟨[[99],[42,46,116,109,112]],false⟩]⟩:=(Option.some.inj hz).symm
 have hh:=hu.h
 rw [hze] at hh c4
 obtain ⟨b2,o2,p,Ak,ck,hA2,hb2,hp,d0,_,_,_,hs⟩:=hh.get (k:=0) (by decide)
 have hpe : p = ⟨[[99],[42,46,116,109,112]],false⟩:=(Option.some.inj hp).symm
 subst hpe
 obtain ⟨b3,o3,l,hA3,hb3,hl,_,e0⟩:=hs.get (k:=0) (by decide)
 have hle : l = [99]:=(Option.some.inj hl).symm
 subst hle
 refine ⟨b,o,c,b2,o2,z.hc,ck,b3,o3,rfl,h1,⟨?_,?_,?_,hb,hb2,hb3⟩⟩
 ·rw [hA2] at c4
  simpa using c4
 ·rw [hA3] at d0
  simpa using d0
 ·have : w'.cell? ⟨b3,o3,none⟩ = some (.string (bs [99])):=by simpa using e0
  exact this
set_option maxRecDepth 100000 in
set_option maxHeartbeats 4000000 in
theorem awakeM_c (w : World) (hM : MaxL w) : Calls Tryz.prog 4 #[] w fun e w'=>e = .returned (.bool true) ∧ Calm w w':=by
 have KI : Hid (Calls Tryz.prog 12 #[.slice (some ⟨w.heap.size + 1 + 1 + 1 + 1 + 1 + 1,0,none⟩) 1 1] (exMW w) fun e w'=>(∃ b o c b2 o2 c1 c2 b3 o3,e = .returned (.tuple #[.slice (some ⟨b,o,none⟩) 1 c,.int .i64 0]) ∧ 1 ≤ c ∧ ExI w' b o b2 o2 c1 c2 b3 o3) ∧ Calm (exMW w) w'):=
  (minv_c exM 1 1 _ (exMW w) (exMW_ents w) (Nat.le_refl _) (by decide) rfl exM_small).mono fun e w' ⟨h1,h2⟩=>⟨exI_of h1,h2⟩
 have KB : Hid (∀ W,Calm (exMW w) W → Calls Tryz.prog 10 #[.slice (some ⟨w.heap.size + 1 + 1 + 1 + 1 + 1 + 1,0,none⟩) 1 1,.string ⟨#[47,47,99,47,97]⟩] W fun e w'=>e = .returned (.tuple #[.string ⟨#[47,47,100,47,97]⟩,.bool true]) ∧ Calm W w'):=fun W hW=>by
  have:=mbwd_c exM [47,47,99,47,97] 1 1 _ W ((exMW_ents w).calm hW) (Nat.le_refl _) (by decide) rfl exM_small (by decide) (hM.calm ((exMW_calm w).trans hW))
  unfold mbV at this
  rw [if_pos exM_ok] at this
  unfold bwV at this
  rw [exM_bwd] at this
  exact this
 have HC : Hid (Calm w (exMW w)):=exMW_calm w
 clear hM
 go_enter Tryz.func4,Tryz.ntmps4
 go_wp2_with fail
 refine KI.out.mono ?_
 rintro e w3 ⟨⟨b,o,c,b2,o2,c1,c2,b3,o3,rfl,hc,hx⟩,hc3⟩
 have HX:=Lib.hid hx
 have HC3:=Lib.hid hc3
 clear hx hc3
 go_wp2_with fail
 refine (KB.out w3 HC3.out).mono ?_
 rintro e w4 ⟨rfl,hc4⟩
 have hx4:=HX.out.calm hc4
 have x1:=hx4.h
 have x2:=hx4.p
 have x3:=hx4.s
 clear hx4
 go_wp2_with fail
 go_ret
 exact ⟨rfl,HC.out.trans (HC3.out.trans hc4)⟩
end Go.Proofs.YthopphabeddnfaaGreatDoor
