/- Walk: mapping.Compose, where reduce does what it should. -/
import Derived.Test.YtdcdabbepnahnaaGreatDoorZPairsW
import Derived.Test.YtdcdabbepnahnaaGreatDoorZKeptA
import Derived.Test.YtdcdabbepnahnaaGreatDoorZPutN
import Derived.Test.YtdcdabbepnahnaaGreatDoorZComP
set_option linter.unusedVariables false
set_option linter.unusedSimpArgs false
namespace Go.Proofs.YtdcdabbepnahnaaGreatDoor
open Go Go.RowKit Go.Shelf Sy

theorem KpP.put {w0 W : World} {G l : Nat} {o : Obj} (o' : Obj) (hl0 : w0.heap.size ≤ l) (hG : G < l) (ho : W.heap[l]? = some o) (hc : o.isCells = false) (hw : o.isWalk = false) : KpP w0 G W (W.putObj l o'):=by
 have other : ∀ k,k ≠ l → (W.putObj l o').heap[k]? = W.heap[k]?:=fun k hk=>World.putObj_heap_other (fun e=>hk (by rw [e]))
 refine ⟨belowK_b (w:=w0) (Nat.le_refl _) W l o o' hl0 ho hc hw,by simp,fun b cs T x hb hf=>⟨?_,hf.1,fun v hv=>hf.2 v (cell_back (other G (by omega)) hv)⟩,fun hr v hv g hg=>?_⟩
 ·rw [other b (fun e=>by rw [e,ho] at hb;cases hb;cases hc)]
  exact hb
 ·have:=hr v (cell_back (other G (by omega)) hv) g hg
  simpa using this
theorem boxed_calm {A B : World} {b : Nat} {t : TypeId} {v : Value} (h : Boxed A b t v) (hc : Calm A B) : Boxed B b t v:=(hc.block _ h.lt).trans h
def RedK : Prop:=∀ (b : Pat) (ps : List Pat) (A1 : Option Addr) (c1 : Nat) (PA : Option Addr) (nl N pc : Nat) (lr : Bool) (W : World),PatA W A1 c1 b → PatsR W PA ps → b.parts.length = nl → b.rest = lr → ps.length = N → patErr b = 0 → (∀ p ∈ ps,patErr p = 0) →
 Calls Tryz.prog 86 #[.agg #[.slice A1 nl c1,.bool lr],.slice PA N pc] W fun e w'=>RdEnd b ps W.heap.size e w' ∧ Calm W w'
end Go.Proofs.YtdcdabbepnahnaaGreatDoor
set_option linter.unusedVariables false
set_option linter.unusedSimpArgs false
namespace Go.Proofs.YtdcdabbepnahnaaGreatDoor
open Go Go.RowKit Go.Shelf Sy
attribute [local go_sem] Oper.semAt_some

set_option maxRecDepth 100000 in
set_option maxHeartbeats 40000000 in
theorem mcom_k (es fs : List Ent) (n c n2 c2 : Nat) (A A2 : Option Addr) (w : World) (h : EntsA w A es) (hcn : n ≤ c) (hcc : c ≤ 9223372036854775807) (hn : es.length = n) (hs : ∀ x ∈ es,SmallE x) (h2 : EntsA w A2 fs) (hcn2 : n2 ≤ c2) (hcc2 : c2 ≤ 9223372036854775807) (hn2 : fs.length = n2) (hs2 : ∀ x ∈ fs,SmallE x) (KRd : RedK) :
  Calls Tryz.prog 21 #[.slice A n c,.slice A2 n2 c2] w fun e w'=>EntOut (comE es fs).1 (comE es fs).2 w.heap.size e w' ∧ Calm w w':=by
 obtain ⟨er,her⟩ : ∃ er,bothM es fs = er:=⟨_,rfl⟩
 obtain ⟨w1,hw1⟩ : ∃ w1,w1 = ((w.alloc (.cells #[.slice none 0 0] 25)).alloc (.cells #[.int .i64 0] 26)).alloc (.cells #[.slice A n c,.slice A2 n2 c2] 25):=⟨_,rfl⟩
 obtain ⟨wR,hwR⟩ : ∃ wR,wR = (w.alloc (.cells #[.slice none 0 0] 25)).alloc (.cells #[.int .i64 0] 26):=⟨_,rfl⟩
 have hcR : Calm w wR:=by
  show Below _ _ _
  rw [hwR]
  exact ((Calm.refl w).alloc _).alloc _
 have hcR1 : Calm wR w1:=by
  show Below _ _ _
  rw [hw1,← hwR]
  exact (Calm.refl wR).alloc _
 have hc1 : Calm w w1:=hcR.trans hcR1
 have hb1 : Boxed wR w.heap.size 25 (.slice none 0 0):=by rw [hwR];exact (Boxed.new w _ _).alloc _
 have hb2 : Boxed wR (w.heap.size + 1) 26 (.int .i64 0):=by
  rw [hwR]
  have:=Boxed.new (w.alloc (.cells #[.slice none 0 0] 25)) 26 (.int .i64 0)
  simpa using this
 have hszR : wR.heap.size = w.heap.size + 1 + 1:=by rw [hwR];simp
 have hk0 : w1.cell? ⟨w.heap.size + 1 + 1,0,none⟩ = some (.slice A n c):=by rw [hw1];simp [go_sem]
 have hk1 : w1.cell? ⟨w.heap.size + 1 + 1,1,none⟩ = some (.slice A2 n2 c2):=by rw [hw1];simp [go_sem]
 have hg1 : w.heap.size + 1 + 1 < w1.heap.size:=by rw [hw1];simp [go_sem]
 have KC:=check2_c es fs n c n2 c2 (w.heap.size + 1 + 1) A A2 er w1 (h.calm hc1) hcn hcc hs hn (h2.calm hc1) hcn2 hcc2 hs2 hn2 her hk0 hk1 hg1
 have HE0 : er ≠ 0 → Hid (comE es fs = ([],er)):=fun h0=>by
  show comE es fs = _
  unfold bothM at her
  unfold comE
  by_cases h1 : (mapE es).2 ≠ 0
  ·rw [if_pos h1] at her ⊢
   rw [her]
  ·rw [if_neg h1] at her ⊢
   rw [her,if_pos h0]
 have HE1 : er = 0 → Hid (Mapping es ∧ Mapping fs ∧ (∀ out,comL (pairsL es fs) = some out → comE es fs = if 32 < out.length then ([],72) else (out,0)) ∧ (comL (pairsL es fs) = none → comE es fs = ([],72))):=fun h0=>by
  have h1 : (mapE es).2 = 0:=by
   unfold bothM at her
   by_cases h1 : (mapE es).2 ≠ 0
   ·rw [if_pos h1] at her
    exact absurd (her.trans h0) h1
   ·simpa using h1
  have h3 : (mapE fs).2 = 0:=by
   unfold bothM at her
   rw [if_neg (by simpa using h1)] at her
   exact her.trans h0
  refine ⟨(mapE_zero h1).1,(mapE_zero h3).1,fun out ho=>?_,fun ho=>?_⟩
  ·unfold comE
   rw [if_neg (by simpa using h1),if_neg (by simpa using h3),ho]
  ·unfold comE
   rw [if_neg (by simpa using h1),if_neg (by simpa using h3),ho]
 obtain ⟨hl1,za,hza,hrA,heA⟩:=h
 obtain ⟨hl2,zb,hzb,hrB,heB⟩:=h2
 have hna : za.length = n:=by rw [← hn,← hza,List.length_map]
 have hnb : zb.length = n2:=by rw [← hn2,← hzb,List.length_map]
 have HZ:=Lib.hid (And.intro hza hzb)
 have HRd:=Lib.hid (And.intro hrA hrB)
 have HEnt:=Lib.hid (And.intro heA heB)
 have HLen:=Lib.hid (And.intro hna (And.intro hnb (And.intro (show n ≤ 1048576 by omega) (show n2 ≤ 1048576 by omega))))
 have HSm:=Lib.hid (And.intro hs hs2)
 have HKC:=Lib.hid KC
 have HRed : Hid RedK:=KRd
 have HW:=Lib.hid hw1
 have HCR:=Lib.hid (And.intro hcR (And.intro hcR1 (And.intro hb1 (And.intro hb2 hszR))))
 have q1:=(hb1.cell)
 have k1 : w1.cell? ⟨w.heap.size,0,none⟩ = some (.slice none 0 0):=hcR1.at_ hb1.cell hb1.lt
 have k2 : w1.cell? ⟨w.heap.size + 1,0,none⟩ = some (.int .i64 0):=hcR1.at_ hb2.cell hb2.lt
 clear hk0 hk1 hg1 hn hs hn2 hs2 KRd her hw1 hwR hcR hcR1 hc1 hb1 hb2 hszR KC hl1 hl2 hza hrA heA hzb hrB heB hna hnb q1 k1 k2
 refine (callsIn_wide (n:=9)).1 ?_
 refine callsIn_of_wp_marks Tryz.func21 rfl trivial ?_ rfl
 simp only [Tryz.ntmps21,List.size_toArray,List.length_cons,List.length_nil,Nat.reduceAdd,Nat.reduceSub,Array.replicate_succ,Array.replicate_zero,List.push_toArray,List.append_toArray,List.nil_append,List.cons_append]
 by_cases h0 : er = 0
 ·subst h0
  have HV:=HE1 rfl
  clear HE0 HE1
  gi_wp2_with fail
  rw [← HW.out]
  refine ⟨trivial,(callsIn_wide.2 HKC.out).mono ?_⟩
  rintro e w2 ⟨rfl,hc2⟩
  have HC2 : Hid (Calm w1 w2):=hc2
  obtain ⟨G,hG⟩ : ∃ G,w2.heap.size = G:=⟨_,rfl⟩
  obtain ⟨w3,hw3⟩ : ∃ w3,w3 = w2.alloc (.cells #[.slice none 0 0,.bool false] 100):=⟨_,rfl⟩
  obtain ⟨w5,hw5⟩ : ∃ w5,w5 = (w3.alloc (.cells #[.slice A n c] 25)).alloc (.cells #[.slice A2 n2 c2] 25):=⟨_,rfl⟩
  have hcRw2 : Calm wR w2:=HCR.out.2.1.trans hc2
  have hcol3 : ColA wR w3 G []:=by rw [hw3,← hG];exact colA_new hcRw2
  have hG3 : w3.heap.size = G + 1:=by rw [hw3,← hG];simp
  have hG5 : w5.heap.size = G + 1 + 1 + 1:=by rw [hw5];simp [hG3]
  have hc35 : Calm w3 w5:=by
   show Below _ _ _
   rw [hw5]
   exact ((Calm.refl w3).alloc _).alloc _
  have hcol5 : ColA wR w5 G []:=hcol3.to hc35
  have hgc : w3.cell? ⟨G,0,none⟩ = some (.slice none 0 0):=by rw [hw3,← hG];simp
  have hrow3 : RowIn G w3:=fun v hv g hg=>by
   rw [hgc] at hv
   cases hv
   cases hg
  have hk35 : KeepR w3 w5 G:=KeepR.calm (by omega) hc35
  have hs4 : Stay G (w3.alloc (.cells #[.slice A n c] 25)) (G + 1) #[.slice A n c] 25:=by
   have:=Stay.new hrow3 (show G < w3.heap.size by omega) #[.slice A n c] 25
   rwa [hG3] at this
  have hs5 : Stay G w5 (G + 1 + 1) #[.slice A2 n2 c2] 25:=by
   have h4 : KeepR w3 (w3.alloc (.cells #[.slice A n c] 25)) G:=KeepR.calm (by omega) ((Calm.refl _).alloc _)
   have:=Stay.new (h4.row hrow3) (show G < (w3.alloc (.cells #[.slice A n c] 25)).heap.size by simp [hG3];omega) #[.slice A2 n2 c2] 25
   rw [hw5]
   simpa [hG3] using this
  have hb5 : w5.cell? ⟨G + 1,0,none⟩ = some (.slice A n c):=by
   have : Stay G w5 (G + 1) #[.slice A n c] 25:=by
    rw [hw5]
    exact hs4.keep (KeepR.calm (by simp [hG3];omega) ((Calm.refl _).alloc _))
   exact this.cell rfl
  have hcw5 : Calm w w5:=by
   have h3 : Calm w2 w3:=by
    show Below _ _ _
    rw [hw3]
    exact (Calm.refl _).alloc _
   exact ((HCR.out.1.trans hcRw2).trans h3).trans hc35
  have HW3:=Lib.hid hw3
  have HW5:=Lib.hid hw5
  have HG:=Lib.hid hG
  have HG3:=Lib.hid hG3
  have HG5:=Lib.hid hG5
  have HCol:=Lib.hid hcol5
  have HSt:=Lib.hid (And.intro hb5 (And.intro hs5 (And.intro (hk35.row hrow3) hcw5)))
  have hRsz : w.heap.size ≤ wR.heap.size:=HCR.out.1.size
  have hRG : wR.heap.size ≤ G:=by rw [← hG];exact hcRw2.size
  clear hc2 hG hw3 hw5 hcRw2 hcol3 hG3 hc35 hcol5 hgc hrow3 hk35 hs4 hs5 hb5 hcw5
  gi_wp2_with fail
  rw [← HW3.out]
  refine ⟨trivial,(pairs_in _ A A2 n c n2 c2 w3).mono ?_⟩
  rintro e w' ⟨rfl,rfl⟩
  rw [← HW5.out,HG3.out,HG.out]
  gi_wp2_with fail
  refine wpIn_rangeFunc_ownH rfl (by decide) (gf:=83) (lb:=#[.pointer (some ⟨G + 1,0,none⟩),.pointer (some ⟨G + 1 + 1,0,none⟩)]) rfl trivial (enters_of Tryz.func83 (by kernel_rfl) rfl)
   (pairs_stops _ (by decide) w (G + 1) (G + 1 + 1) G A A2 n c n2 c2 za zb HRd.out.1 HRd.out.2 HLen.out.1 HLen.out.2.1 HLen.out.2.2.1 HLen.out.2.2.2 w5 HSt.out.2.2.2 HSt.out.1 HSt.out.2.1 HSt.out.2.2.1 (by have:=HG5.out;omega))
   (fun h k=>h.trans k) (fun W l o o' hl ho hc hw=>KpP.put o' (by have:=HG5.out;omega) (by have:=HG5.out;omega) ho hc hw) (Below.refl _ _) (fun _=>rfl)
   (fun pre W=>∃ out,comL (pre.map eP) = some out ∧ ColA wR W G out)
   (fun cc pre W=>(((cc = .ret ∧ comL (pre.map eP) = none) ∧ W.cell? ⟨w.heap.size,0,none⟩ = some (.slice none 0 0)) ∧ W.cell? ⟨w.heap.size + 1,0,none⟩ = some (.int .i64 72)) ∧ Below w.heap.size w W)
   (colA_own wR G (fun (pre : List (PairZ za zb)) out=>comL (pre.map eP) = some out) (by have:=HG5.out;omega))
   (fun cc=>OwnFrom.and (OwnFrom.and (OwnFrom.and (ownFrom_pure _ _) (cell_own _ (fun _=>_) _)) (cell_own _ (fun _=>_) _)) (ownFrom_below (Nat.le_refl _) (by have:=HG5.out;omega)))
   ⟨[],rfl,HCol.out⟩
   (fun x a' W=>∃ B8 B9,(Ent5 W B8 x.1.1 ∧ Ent5 W B9 x.1.2) ∧ a' = { tmps:=#[.slice A n c,.slice A2 n2 c2,undef,undef,.pointer (some ⟨w.heap.size,0,none⟩),.pointer (some ⟨w.heap.size + 1,0,none⟩),.int .i64 0,.pointer (some ⟨G,0,none⟩),.pointer (some ⟨B8,0,none⟩),.pointer (some ⟨B9,0,none⟩),undef,undef,undef,undef,undef,undef,undef,undef,undef,undef,.slice A n c,.slice A2 n2 c2,.slice (some ⟨w.heap.size + 1 + 1,0,none⟩) 2 2,.int .i64 0,.int .i64 0,.bool false,undef,.slice A n c,.slice A2 n2 c2,.func (.func 83) #[] #[.pointer (some ⟨G + 1,0,none⟩),.pointer (some ⟨G + 1 + 1,0,none⟩)],entZ x.1.1,entZ x.1.2,undef,undef,undef,undef,undef,undef,undef,undef,undef,undef,undef,undef,undef,undef,undef,undef,undef,undef,undef,undef,undef,undef,undef,undef,undef,undef,undef,undef,undef,undef,undef,undef,undef,undef,undef,undef,undef,undef,undef,undef,undef,undef,undef,undef,undef,undef,undef,undef,undef],defers:=[] })
   (fun x a' _ X Y row hs hg hr=>by
    obtain ⟨B8,B9,⟨e1,e2⟩,e3⟩:=hs
    have t:=Turn.of hg (fun r e=>(hr r e).2)
    exact ⟨B8,B9,⟨e1.turn t,e2.turn t⟩,e3⟩)
   ?assign ?body ?done ?stop
  case assign=>
   rintro l pre x W K ⟨out,hcl,hcol⟩ hK
   dsimp only [entZ,entV]
   gi_wp2
   have hGW:=hcol.lt
   have hRW:=hcol.calm.size
   have hc2 : Calm W ((W.alloc (.cells #[.slice x.1.1.LA x.1.1.e.left.parts.length x.1.1.lc,.bool x.1.1.e.left.rest,.slice x.1.1.RA x.1.1.e.right.parts.length x.1.1.rc,.bool x.1.1.e.right.rest,.slice x.1.1.HA x.1.1.e.hs.length x.1.1.hc] 73)).alloc (.cells #[.slice x.1.2.LA x.1.2.e.left.parts.length x.1.2.lc,.bool x.1.2.e.left.rest,.slice x.1.2.RA x.1.2.e.right.parts.length x.1.2.rc,.bool x.1.2.e.right.rest,.slice x.1.2.HA x.1.2.e.hs.length x.1.2.hc] 73)):=((Calm.refl W).alloc _).alloc _
   refine hK _ _ (((KeepsOthers.alloc _ _).trans (KeepsOthers.alloc _ _)).from _) ⟨Below.mono hc2 (by omega),KeepR.calm hGW hc2⟩ ⟨out,hcl,hcol.to hc2⟩ ⟨W.heap.size,W.heap.size + 1,⟨?_,?_⟩,rfl⟩
   ·exact Ent5.calm (World.alloc_heap_new W _) ((Calm.refl _).alloc _)
   ·have:=World.alloc_heap_new (W.alloc (.cells #[.slice x.1.1.LA x.1.1.e.left.parts.length x.1.1.lc,.bool x.1.1.e.left.rest,.slice x.1.1.RA x.1.1.e.right.parts.length x.1.1.rc,.bool x.1.1.e.right.rest,.slice x.1.1.HA x.1.1.e.hs.length x.1.1.hc] 73)) (.cells #[.slice x.1.2.LA x.1.2.e.left.parts.length x.1.2.lc,.bool x.1.2.e.left.rest,.slice x.1.2.RA x.1.2.e.right.parts.length x.1.2.rc,.bool x.1.2.e.right.rest,.slice x.1.2.HA x.1.2.e.hs.length x.1.2.hc] 73)
    rw [World.size_alloc] at this
    exact this
  case body=>
   rintro l pre x a' W hl ⟨r,hr⟩ ⟨out,hcl,hcol⟩ ⟨B8,B9,⟨h8,h9⟩,rfl⟩ hlt
   clear hlt hr
   obtain ⟨⟨x1,x2⟩,hxx⟩:=x
   obtain ⟨hx1,hx2⟩:=id hxx
   dsimp only at h8 h9 ⊢
   have hD5:=HG5.out
   have hcw : Calm w W:=HCR.out.1.trans hcol.calm
   have m1 : x1.e ∈ es:=by rw [← HZ.out.1];exact List.mem_map.2 ⟨x1,hx1,rfl⟩
   have m2 : x2.e ∈ fs:=by rw [← HZ.out.2];exact List.mem_map.2 ⟨x2,hx2,rfl⟩
   have g1:=HV.out.1.good x1.e m1
   have g2:=HV.out.2.1.good x2.e m2
   have s1:=HSm.out.1 _ m1
   have s2:=HSm.out.2 _ m2
   have u1:=entA_few ((HEnt.out.1 x1 hx1).calm hcw) s1 g1.2
   have u2:=entA_few ((HEnt.out.2 x2 hx2).calm hcw) s2 g2.2
   have r1 : SmallR x1.e.rule:=⟨by have:=s1.lp;show x1.e.left.parts.length ≤ _;omega,fun s hs'=>by have:=s1.ls s hs';omega,by have:=s1.rp;show x1.e.right.parts.length ≤ _;omega,fun s hs'=>by have:=s1.rs s hs';omega⟩
   have r2 : SmallR x2.e.rule:=⟨by have:=s2.lp;show x2.e.left.parts.length ≤ _;omega,fun s hs'=>by have:=s2.ls s hs';omega,by have:=s2.rp;show x2.e.right.parts.length ≤ _;omega,fun s hs'=>by have:=s2.rs s hs';omega⟩
   have b1:=boxed_calm HCR.out.2.2.1 hcol.calm
   have b2:=boxed_calm HCR.out.2.2.2.1 hcol.calm
   have hGW : G < W.heap.size:=hcol.lt
   have HGW : Hid (Calm wR W):=hcol.calm
   have HRet : Hid (comOf x1.e x2.e = none → ∀ X,Calm wR X → KeepG W X G → W.heap.size ≤ X.heap.size → KeepsFrom w5.heap.size W ((X.setCell ⟨w.heap.size,0,none⟩ (.slice none 0 0)).setCell ⟨w.heap.size + 1,0,none⟩ (.int .i64 72)) ∧ comL ((pre ++ [⟨(x1,x2),hxx⟩] : List (PairZ za zb)).map eP) = none ∧ ((X.setCell ⟨w.heap.size,0,none⟩ (.slice none 0 0)).setCell ⟨w.heap.size + 1,0,none⟩ (.int .i64 72)).cell? ⟨w.heap.size,0,none⟩ = some (.slice none 0 0) ∧ ((X.setCell ⟨w.heap.size,0,none⟩ (.slice none 0 0)).setCell ⟨w.heap.size + 1,0,none⟩ (.int .i64 72)).cell? ⟨w.heap.size + 1,0,none⟩ = some (.int .i64 72) ∧ Below w.heap.size w ((X.setCell ⟨w.heap.size,0,none⟩ (.slice none 0 0)).setCell ⟨w.heap.size + 1,0,none⟩ (.int .i64 72))):=fun hno X hX hkg hsz=>by
    have k1:=(boxed_calm HCR.out.2.2.1 hX).cell
    have k2:=(boxed_calm HCR.out.2.2.2.1 hX).cell
    refine ⟨(hkg.from hsz (by omega)).trans (((KeepsOthers.setCell _ _ _).trans (KeepsOthers.setCell _ _ _)).from _),?_,?_,?_,?_⟩
    ·have:=comL_stop (pre:=pre.map eP) (post:=[]) (p:=(x1.e,x2.e)) hno
     rw [List.append_nil] at this
     rw [List.map_append]
     exact this
    ·exact (World.cell?_setCell_other _ _ _ _ (by simp)).trans (World.cell?_setCell_same' _ _ _ (by rw [k1];rfl))
    ·exact World.cell?_setCell_same' _ _ _ (by rw [World.cell?_setCell_other _ _ _ _ (by simp),k2];rfl)
    ·exact Below.setCell (p:=⟨w.heap.size + 1,0,none⟩) (Below.setCell (p:=⟨w.heap.size,0,none⟩) (HCR.out.1.trans hX) (Nat.le_refl _) _) (Nat.le_succ _) _
   have HGo : Hid (∀ o,comOf x1.e x2.e = some o → ∀ X,ColA wR X G (out ++ o.toList) → KeepG W X G → KeepR W X G → KeepsFrom w5.heap.size W X ∧ KpP w G W X ∧ ∃ out',comL ((pre ++ [⟨(x1,x2),hxx⟩] : List (PairZ za zb)).map eP) = some out' ∧ ColA wR X G out'):=fun o ho X hcX hkg hkr=>by
    refine ⟨hkg.from hkr.size (by omega),⟨below_two HGW.out hcX.calm hRsz hkr.size,hkr⟩,out ++ o.toList,?_,hcX⟩
    rw [List.map_append]
    exact comL_step hcl ho
   obtain ⟨n1l,hn1l⟩ : ∃ n1l,x1.e.left.parts.length = n1l:=⟨_,rfl⟩
   obtain ⟨n1r,hn1r⟩ : ∃ n1r,x1.e.right.parts.length = n1r:=⟨_,rfl⟩
   obtain ⟨n1h,hn1h⟩ : ∃ n1h,x1.e.hs.length = n1h:=⟨_,rfl⟩
   obtain ⟨b1l,hb1l⟩ : ∃ b1l,x1.e.left.rest = b1l:=⟨_,rfl⟩
   obtain ⟨b1r,hb1r⟩ : ∃ b1r,x1.e.right.rest = b1r:=⟨_,rfl⟩
   obtain ⟨n2l,hn2l⟩ : ∃ n2l,x2.e.left.parts.length = n2l:=⟨_,rfl⟩
   obtain ⟨n2r,hn2r⟩ : ∃ n2r,x2.e.right.parts.length = n2r:=⟨_,rfl⟩
   obtain ⟨n2h,hn2h⟩ : ∃ n2h,x2.e.hs.length = n2h:=⟨_,rfl⟩
   obtain ⟨b2l,hb2l⟩ : ∃ b2l,x2.e.left.rest = b2l:=⟨_,rfl⟩
   obtain ⟨b2r,hb2r⟩ : ∃ b2r,x2.e.right.rest = b2r:=⟨_,rfl⟩
   have KLn1 : Hid (∀ X,Calls Tryz.prog 38 #[.agg #[.slice x1.LA n1l x1.lc,.bool b1l,.slice x1.RA n1r x1.rc,.bool b1r,.slice x1.HA n1h x1.hc]] X fun e w'=>e = .returned (.agg #[.bool false,.slice x1.LA n1l x1.lc,.bool b1l,.slice x1.RA n1r x1.rc,.bool b1r]) ∧ Calm X w'):=fun X=>line_c _ _ _ _ _ _ _ _ _ _ _ X
   have KLn2 : Hid (∀ X,Calls Tryz.prog 38 #[.agg #[.slice x2.LA n2l x2.lc,.bool b2l,.slice x2.RA n2r x2.rc,.bool b2r,.slice x2.HA n2h x2.hc]] X fun e w'=>e = .returned (.agg #[.bool false,.slice x2.LA n2l x2.lc,.bool b2l,.slice x2.RA n2r x2.rc,.bool b2r]) ∧ Calm X w'):=fun X=>line_c _ _ _ _ _ _ _ _ _ _ _ X
   have KCh : Hid (∀ X,Calm W X → Calls Tryz.prog 46 #[.agg #[.bool false,.slice x1.LA n1l x1.lc,.bool b1l,.slice x1.RA n1r x1.rc,.bool b1r],.agg #[.bool false,.slice x2.LA n2l x2.lc,.bool b2l,.slice x2.RA n2r x2.rc,.bool b2r]] X fun e w'=>NarEnd (chainE x1.e.rule x2.e.rule) X.heap.size e w' ∧ Calm X w'):=fun X hX=>by
    have v1:=u1.calm hX
    have v2:=u2.calm hX
    have:=chain_c x1.e.rule x2.e.rule x1.pl x2.pl X ⟨v1.l.r.toU,v1.r.r.toU,v1.l.room,v1.r.room,v1.l.cap,v1.r.cap⟩ r1 ⟨v2.l.r.toU,v2.r.r.toU,v2.l.room,v2.r.room,v2.l.cap,v2.r.cap⟩ r2
    unfold ruleV Ent.rule NewE.pl at this
    simp only [hn1l,hn1r,hb1l,hb1r,hn2l,hn2r,hb2l,hb2r] at this
    exact this
   have KNr : Hid (∀ X p pA pc pn pr,Calm W X → PatA X pA pc p → p.parts.length = pn → p.rest = pr → Calls Tryz.prog 48 #[.agg #[.bool false,.slice x1.LA n1l x1.lc,.bool b1l,.slice x1.RA n1r x1.rc,.bool b1r],.agg #[.slice pA pn pc,.bool pr]] X fun e w'=>NarEnd (narR x1.e.rule p) X.heap.size e w' ∧ Calm X w'):=fun X p pA pc pn pr hX hp h1 h2=>by
    have v1:=u1.calm hX
    have:=nright_c x1.e.rule p x1.pl pn pc pr pA X ⟨v1.l.r.toU,v1.r.r.toU,v1.l.room,v1.r.room,v1.l.cap,v1.r.cap⟩ r1 hp h1 h2
    unfold ruleV Ent.rule NewE.pl at this
    simp only [hn1l,hn1r,hb1l,hb1r] at this
    exact this
   have f8:=h8.five
   have f9:=h9.five
   rw [hn1l,hb1l,hn1r,hb1r,hn1h] at f8
   rw [hn2l,hb2l,hn2r,hb2r,hn2h] at f9
   have HS8 : Hid (∀ X,Calm W X → Calm W X ∧ X.cell? ⟨B8,0,none⟩ = some (.slice x1.LA n1l x1.lc) ∧ X.cell? ⟨B8,1,none⟩ = some (.bool b1l) ∧ X.cell? ⟨B8,2,none⟩ = some (.slice x1.RA n1r x1.rc) ∧ X.cell? ⟨B8,3,none⟩ = some (.bool b1r) ∧ X.cell? ⟨B8,4,none⟩ = some (.slice x1.HA n1h x1.hc) ∧ X.cell? ⟨B9,0,none⟩ = some (.slice x2.LA n2l x2.lc) ∧ X.cell? ⟨B9,1,none⟩ = some (.bool b2l) ∧ X.cell? ⟨B9,2,none⟩ = some (.slice x2.RA n2r x2.rc) ∧ X.cell? ⟨B9,3,none⟩ = some (.bool b2r) ∧ X.cell? ⟨B9,4,none⟩ = some (.slice x2.HA n2h x2.hc)):=fun X hX=>
    have a:=f8.calm hX
    have b:=f9.calm hX
    ⟨hX,a.c0,a.c1,a.c2,a.c3,a.c4,b.c0,b.c1,b.c2,b.c3,b.c4⟩
   have HV1 : Hid (entZ x1 = .agg #[.slice x1.LA n1l x1.lc,.bool b1l,.slice x1.RA n1r x1.rc,.bool b1r,.slice x1.HA n1h x1.hc]):=entZ_eq hn1l hn1r hn1h hb1l hb1r
   have HV2 : Hid (entZ x2 = .agg #[.slice x2.LA n2l x2.lc,.bool b2l,.slice x2.RA n2r x2.rc,.bool b2r,.slice x2.HA n2h x2.hc]):=entZ_eq hn2l hn2r hn2h hb2l hb2r
   have HU:=Lib.hid (And.intro u1 u2)
   have HSz:=Lib.hid (And.intro s1 s2)
   have HGd:=Lib.hid (And.intro g1 g2)
   have HN1:=Lib.hid (And.intro hn1h hn2h)
   have HFv:=Lib.hid (And.intro f8 f9)
   have HCol:=Lib.hid hcol
   have HCw:=Lib.hid hcw
   have HBx:=Lib.hid (And.intro b1 b2)
   rw [HV1.out,HV2.out]
   clear hcw m1 m2 g1 g2 s1 s2 u1 u2 r1 r2 hcol hcl h8 h9 f8 f9 b1 b2 hn1l hn1r hn1h hb1l hb1r hn2l hn2r hn2h hb2l hb2r
   obtain ⟨⟨oc,xe⟩,hX⟩ : ∃ X,chainE x1.e.rule x2.e.rule = X:=⟨_,rfl⟩
   rw [hX] at KCh
   have HX:=Lib.hid hX
   clear hX
   gi_wp2_with fail
   cases oc with
   |none=>
    have KCh1 : Hid (∀ X,Calm W X → Calls Tryz.prog 46 #[.agg #[.bool false,.slice x1.LA n1l x1.lc,.bool b1l,.slice x1.RA n1r x1.rc,.bool b1r],.agg #[.bool false,.slice x2.LA n2l x2.lc,.bool b2l,.slice x2.RA n2r x2.rc,.bool b2r]] X fun e w'=>e = .returned (.tuple #[.agg #[.bool false,.slice none 0 0,.bool false,.slice none 0 0,.bool false],.bool false,.int .i64 xe]) ∧ Calm X w'):=fun X hX=>(KCh.out X hX).mono fun e w' h=>by
     obtain ⟨h1,h2⟩:=h
     refine ⟨?_,h2⟩
     rcases h1 with ⟨_,h1⟩ | ⟨m,a2,h1,_⟩
     ·exact h1
     ·cases h1
    clear KCh
    gi_cut [11,12] from 81 (fun s u wx=>s = .bool false ∧ u = .int .i64 xe ∧ Hid (Calm W wx))
    case first=>
     clear HRet HGo HV1 HV2 HU HSz HGd HN1 HFv HCol HCw HBx HGW HZ HRd HEnt HLen HSm HRed HW HCR HV HW3 HW5 HG HG3 HG5 HSt hRsz hRG hGW hD5 hl hx1 hx2 hcn hcc hcn2 hcc2 HX
     refine region_round (S:=fun X=>Calm W X ∧ X.cell? ⟨B8,0,none⟩ = some (.slice x1.LA n1l x1.lc) ∧ X.cell? ⟨B8,1,none⟩ = some (.bool b1l) ∧ X.cell? ⟨B8,2,none⟩ = some (.slice x1.RA n1r x1.rc) ∧ X.cell? ⟨B8,3,none⟩ = some (.bool b1r) ∧ X.cell? ⟨B8,4,none⟩ = some (.slice x1.HA n1h x1.hc) ∧ X.cell? ⟨B9,0,none⟩ = some (.slice x2.LA n2l x2.lc) ∧ X.cell? ⟨B9,1,none⟩ = some (.bool b2l) ∧ X.cell? ⟨B9,2,none⟩ = some (.slice x2.RA n2r x2.rc) ∧ X.cell? ⟨B9,3,none⟩ = some (.bool b2r) ∧ X.cell? ⟨B9,4,none⟩ = some (.slice x2.HA n2h x2.hc)) (by kernel_rfl) (by kernel_rfl) (fun ⟨_,_,h⟩=>h) (HS8.out _ (Below.drew (Calm.refl _))) (fun hHeld=>?_)
     refine tk 0 rfl ?_
     try simp only [aP,Act.put]
     refine tk 2 rfl ?_
     try simp only [aP,Act.put]
     refine wpAnyH_ready (rs:=[1,9]) (by kernel_rfl) (by simp) ?_
     refine AllReadyH.cons rfl (fun K hK=>?_) (AllReadyH.cons rfl (fun K hK=>?_) AllReadyH.nil)
     go_simp
     refine (KLn1.out _).mono ?_
     rintro e wc0 ⟨rfl,hc0⟩
     refine hK.out _ _ ?_ (fun hN=>?_)
     ·exact HS8.out _ (hHeld.1.trans hc0)
     clear hK K hHeld
     have hHeld:=hN
     clear hN
     try simp only [aP,Act.put]
     rotate_left
     go_simp
     refine hK.out _ _ ?_ (fun hN=>?_)
     ·exact HS8.out _ (by first | exact hHeld.1.alloc _ | exact Below.drew ((Calm.refl _).alloc _))
     have hLo:=Nat.le_refl W.heap.size
     have hZ:=five_drew W 69 (v0:=.bool false) (v1:=.slice none 0 0) (v2:=.bool false) (v3:=.slice none 0 0) (v4:=.bool false)
     clear hK K hHeld
     have hHeld:=hN
     clear hN
     try simp only [aP,Act.put]
     refine wpAnyH_ready (rs:=[1]) (by kernel_rfl) (by simp) ?_
     refine AllReadyH.cons rfl (fun K hK=>?_) AllReadyH.nil
     go_simp
     refine (KLn1.out _).mono ?_
     rintro e wc0 ⟨rfl,hc0⟩
     refine hK.out _ _ ?_ (fun hN=>?_)
     ·exact HS8.out _ (hHeld.1.trans hc0)
     have hZ:=hZ.calm hc0
     clear hK K hHeld
     have hHeld:=hN
     clear hN
     try simp only [aP,Act.put]
     rotate_left
     refine wpAnyH_ready (rs:=[3,9]) (by kernel_rfl) (by simp) ?_
     refine AllReadyH.cons rfl (fun K hK=>?_) (AllReadyH.cons rfl (fun K hK=>?_) AllReadyH.nil)
     go_simp
     refine (KLn2.out _).mono ?_
     rintro e wc1 ⟨rfl,hc1⟩
     refine hK.out _ _ ?_ (fun hN=>?_)
     ·exact HS8.out _ (hHeld.1.trans hc1)
     clear hK K hHeld
     have hHeld:=hN
     clear hN
     try simp only [aP,Act.put]
     rotate_left
     go_simp
     refine hK.out _ _ ?_ (fun hN=>?_)
     ·exact HS8.out _ (by first | exact hHeld.1.alloc _ | exact Below.drew ((Calm.refl _).alloc _))
     have hPre : Calm W wc0:=hHeld.1
     have hLo:=hPre.size
     have hZ:=FiveB.new wc0 (.bool false) (.slice none 0 0) (.bool false) (.slice none 0 0) (.bool false) 69
     clear hK K hHeld
     have hHeld:=hN
     clear hN
     try simp only [aP,Act.put]
     iterate 2
      refine wpAnyH_ready (rs:=[3]) (by kernel_rfl) (by simp) ?_
      refine AllReadyH.cons rfl (fun K hK=>?_) AllReadyH.nil
      go_simp
      refine (KLn2.out _).mono ?_
      rintro e wc1 ⟨rfl,hc1⟩
      refine hK.out _ _ ?_ (fun hN=>?_)
      ·exact HS8.out _ (hHeld.1.trans hc1)
      have hZ:=hZ.calm hc1
      clear hK K hHeld
      have hHeld:=hN
      clear hN
      try simp only [aP,Act.put]
      rotate_left
     refine wpAnyH_ready (rs:=[4,9]) (by kernel_rfl) (by simp) ?_
     refine AllReadyH.cons rfl (fun K hK=>?_) (AllReadyH.cons rfl (fun K hK=>?_) AllReadyH.nil)
     go_simp
     refine (KCh1.out _ hHeld.1).mono ?_
     rintro e wc2 ⟨rfl,hc2⟩
     refine hK.out _ _ ?_ (fun hN=>?_)
     ·exact HS8.out _ (hHeld.1.trans hc2)
     have hP2:=hHeld.1.size
     clear hK K hHeld
     have hHeld:=hN
     clear hN
     try simp only [aP,Act.put]
     rotate_left
     go_simp
     refine hK.out _ _ ?_ (fun hN=>?_)
     ·exact HS8.out _ (by first | exact hHeld.1.alloc _ | exact Below.drew ((Calm.refl _).alloc _))
     have hPre : Calm W wc1:=hHeld.1
     have hLo:=hPre.size
     have hZ:=FiveB.new wc1 (.bool false) (.slice none 0 0) (.bool false) (.slice none 0 0) (.bool false) 69
     clear hK K hHeld
     have hHeld:=hN
     clear hN
     try simp only [aP,Act.put]
     iterate 3
      refine wpAnyH_ready (rs:=[4]) (by kernel_rfl) (by simp) ?_
      refine AllReadyH.cons rfl (fun K hK=>?_) AllReadyH.nil
      go_simp
      refine (KCh1.out _ hHeld.1).mono ?_
      rintro e wc2 ⟨rfl,hc2⟩
      refine hK.out _ _ ?_ (fun hN=>?_)
      ·exact HS8.out _ (hHeld.1.trans hc2)
      have hP2:=hHeld.1.size
      have hbP:=hZ.lt
      have hZ:=hZ.calm hc2
      clear hK K hHeld
      have hHeld:=hN
      clear hN
      try simp only [aP,Act.put]
      rotate_left
     iterate 4
      refine tk 5 rfl ?_
      try simp only [aP,Act.put]
      refine tk 6 rfl ?_
      try simp only [aP,Act.put]
      refine tk 7 rfl ?_
      try simp only [aP,Act.put]
      refine tk 8 rfl ?_
      try simp only [aP,Act.put]
      rotate_left
     refine wpAnyH_ready (rs:=[9]) (by kernel_rfl) (by simp) ?_
     refine AllReadyH.cons rfl (fun K hK=>?_) AllReadyH.nil
     go_simp
     refine hK.out _ _ ?_ (fun hN=>?_)
     ·exact HS8.out _ (by first | exact hHeld.1.alloc _ | exact Below.drew ((Calm.refl _).alloc _))
     have hPre : Calm W wc2:=hHeld.1
     have hLo:=hPre.size
     have hZ:=FiveB.new wc2 (.bool false) (.slice none 0 0) (.bool false) (.slice none 0 0) (.bool false) 69
     clear hK K hHeld
     have hHeld:=hN
     clear hN
     try simp only [aP,Act.put]
     iterate 4
      have z:=hZ
      obtain ⟨-,z0,z1,z2,z3,z4,f⟩:=z
      have f0:=f 0
      have f1:=f 1
      have f2:=f 2
      have f3:=f 3
      have f4:=f 4
      refine wpAnyH_ready (rs:=[10]) (by kernel_rfl) (by simp) ?_
      refine AllReadyH.cons rfl (fun K hK=>?_) AllReadyH.nil
      go_simp
      refine hK.out _ _ ?_ (fun hN=>?_)
      ·first
        |exact HS8.out _ (calm5 hHeld.1 hLo _ _ _ _ _)
        |exact HS8.out _ (hPre.alloc _)
      clear hK K
      try simp only [aP,Act.put]
      refine tk 11 rfl ?_
      try simp only [aP,Act.put]
      refine tk 12 rfl ?_
      try simp only [aP,Act.put]
      refine wpAnyH_done (by kernel_rfl) ?_ _
      gi_wp2_with fail
      gi_meet
      case rel=>exact ⟨rfl,rfl,hN.1⟩
    case rest=>
     obtain ⟨rfl,rfl,HR⟩:=hcut
     by_cases hx0 : xe = 0
     ·subst hx0
      have HOf : Hid (comOf x1.e x2.e = some none):=comOf_miss (by rw [HX.out]) (by rw [HX.out])
      gi_wp2_with fail
      exact HGo.out none HOf.out wc (by rw [Option.toList_none,List.append_nil];exact HCol.out.to HR.out) (KeepG.calm HR.out) (KeepR.calm hGW HR.out)
     ·have HOf : Hid (comOf x1.e x2.e = none):=comOf_bad (by rw [HX.out];exact hx0)
      have hb : (xe != 0) = true:=by simpa using hx0
      have b1:=boxed_calm HBx.out.1 HR.out
      have b2:=boxed_calm HBx.out.2 HR.out
      have k1:=b1.cell
      have k2:=b2.cell
      have f1:=b1.frozen
      have f2:=b2.frozen
      clear b1 b2 hx0
      gi_wp2_with fail
      have h:=HRet.out HOf.out wc (HGW.out.trans HR.out) (KeepG.calm HR.out) HR.out.size
      exact ⟨h.1,⟨⟨⟨rfl,h.2.1⟩,h.2.2.1⟩,h.2.2.2.1⟩,h.2.2.2.2⟩
   |some m=>
    obtain ⟨rfl,hme⟩ : xe = 0 ∧ m.excl = false:=by
     have h1 : (chainE x1.e.rule x2.e.rule).1 = some m:=by rw [HX.out]
     have h2:=chain_snd h1
     rw [HX.out] at h2
     exact h2
    have hm1 : (chainE x1.e.rule x2.e.rule).1 = some m:=by rw [HX.out]
    have HMt : Hid (Sy.Twin m.left m.right):=ruleErr_twin.1 (chain_good hm1)
    have HMz : Hid ((∀ s ∈ m.left.parts,s.length ≤ 250 + 250) ∧ (∀ s ∈ m.right.parts,s.length ≤ 250 + 250) ∧ m.excl = false):=chain_size hm1 (K:=250) (by decide) HSz.out.1.ls HSz.out.1.rs HSz.out.2.ls HSz.out.2.rs
    obtain ⟨ml,hml⟩ : ∃ ml,m.left.parts.length = ml:=⟨_,rfl⟩
    obtain ⟨mr,hmr⟩ : ∃ mr,m.right.parts.length = mr:=⟨_,rfl⟩
    obtain ⟨tl,htl⟩ : ∃ tl,m.left.rest = tl:=⟨_,rfl⟩
    obtain ⟨tr,htr⟩ : ∃ tr,m.right.rest = tr:=⟨_,rfl⟩
    have KCh1 : Hid (∀ X,Calm W X → Calls Tryz.prog 46 #[.agg #[.bool false,.slice x1.LA n1l x1.lc,.bool b1l,.slice x1.RA n1r x1.rc,.bool b1r],.agg #[.bool false,.slice x2.LA n2l x2.lc,.bool b2l,.slice x2.RA n2r x2.rc,.bool b2r]] X fun e w'=>(∃ a2,e = .returned (.tuple #[.agg #[.bool false,.slice a2.AL ml a2.cl,.bool tl,.slice a2.AR mr a2.cr,.bool tr],.bool true,.int .i64 0]) ∧ RuleN w' X.heap.size a2 m) ∧ Calm X w'):=fun X hX=>(KCh.out X hX).mono fun e w' h=>by
     obtain ⟨h1,h2⟩:=h
     refine ⟨?_,h2⟩
     rcases h1 with ⟨h1,_⟩ | ⟨m',a2,h1,h3,h4⟩
     ·cases h1
     ·obtain rfl : m = m':=by simpa using h1
      refine ⟨a2,?_,h4⟩
      rw [h3]
      unfold ruleV
      rw [hme,hml,hmr,htl,htr]
    have HM:=Lib.hid (And.intro hm1 (And.intro hml (And.intro hmr (And.intro htl htr))))
    clear KCh hm1 hme hml hmr htl htr
    gi_cut [10,11,12] from 81 (fun s t u wx=>∃ B10 a2,s = .pointer (some ⟨B10,0,none⟩) ∧ t = .bool true ∧ u = .int .i64 0 ∧ Hid (LineB W wx B10 W.heap.size a2 m (.bool false) (.slice a2.AL ml a2.cl) (.bool tl) (.slice a2.AR mr a2.cr) (.bool tr)))
    case first=>
     clear HRet HGo HV1 HV2 HU HSz HGd HN1 HFv HCol HCw HBx HGW HZ HRd HEnt HLen HSm HRed HW HCR HV HW3 HW5 HG HG3 HG5 HSt hRsz hRG hGW hD5 hl hx1 hx2 hcn hcc hcn2 hcc2 HX
     refine region_round (S:=fun X=>Calm W X ∧ X.cell? ⟨B8,0,none⟩ = some (.slice x1.LA n1l x1.lc) ∧ X.cell? ⟨B8,1,none⟩ = some (.bool b1l) ∧ X.cell? ⟨B8,2,none⟩ = some (.slice x1.RA n1r x1.rc) ∧ X.cell? ⟨B8,3,none⟩ = some (.bool b1r) ∧ X.cell? ⟨B8,4,none⟩ = some (.slice x1.HA n1h x1.hc) ∧ X.cell? ⟨B9,0,none⟩ = some (.slice x2.LA n2l x2.lc) ∧ X.cell? ⟨B9,1,none⟩ = some (.bool b2l) ∧ X.cell? ⟨B9,2,none⟩ = some (.slice x2.RA n2r x2.rc) ∧ X.cell? ⟨B9,3,none⟩ = some (.bool b2r) ∧ X.cell? ⟨B9,4,none⟩ = some (.slice x2.HA n2h x2.hc)) (by kernel_rfl) (by kernel_rfl) (fun ⟨_,_,h⟩=>h) (HS8.out _ (Below.drew (Calm.refl _))) (fun hHeld=>?_)
     refine tk 0 rfl ?_
     try simp only [aP,Act.put]
     refine tk 2 rfl ?_
     try simp only [aP,Act.put]
     refine wpAnyH_ready (rs:=[1,9]) (by kernel_rfl) (by simp) ?_
     refine AllReadyH.cons rfl (fun K hK=>?_) (AllReadyH.cons rfl (fun K hK=>?_) AllReadyH.nil)
     go_simp
     refine (KLn1.out _).mono ?_
     rintro e wc0 ⟨rfl,hc0⟩
     refine hK.out _ _ ?_ (fun hN=>?_)
     ·exact HS8.out _ (hHeld.1.trans hc0)
     clear hK K hHeld
     have hHeld:=hN
     clear hN
     try simp only [aP,Act.put]
     rotate_left
     go_simp
     refine hK.out _ _ ?_ (fun hN=>?_)
     ·exact HS8.out _ (by first | exact hHeld.1.alloc _ | exact Below.drew ((Calm.refl _).alloc _))
     have hLo:=Nat.le_refl W.heap.size
     have hZ:=five_drew W 69 (v0:=.bool false) (v1:=.slice none 0 0) (v2:=.bool false) (v3:=.slice none 0 0) (v4:=.bool false)
     clear hK K hHeld
     have hHeld:=hN
     clear hN
     try simp only [aP,Act.put]
     refine wpAnyH_ready (rs:=[1]) (by kernel_rfl) (by simp) ?_
     refine AllReadyH.cons rfl (fun K hK=>?_) AllReadyH.nil
     go_simp
     refine (KLn1.out _).mono ?_
     rintro e wc0 ⟨rfl,hc0⟩
     refine hK.out _ _ ?_ (fun hN=>?_)
     ·exact HS8.out _ (hHeld.1.trans hc0)
     have hZ:=hZ.calm hc0
     clear hK K hHeld
     have hHeld:=hN
     clear hN
     try simp only [aP,Act.put]
     rotate_left
     refine wpAnyH_ready (rs:=[3,9]) (by kernel_rfl) (by simp) ?_
     refine AllReadyH.cons rfl (fun K hK=>?_) (AllReadyH.cons rfl (fun K hK=>?_) AllReadyH.nil)
     go_simp
     refine (KLn2.out _).mono ?_
     rintro e wc1 ⟨rfl,hc1⟩
     refine hK.out _ _ ?_ (fun hN=>?_)
     ·exact HS8.out _ (hHeld.1.trans hc1)
     clear hK K hHeld
     have hHeld:=hN
     clear hN
     try simp only [aP,Act.put]
     rotate_left
     go_simp
     refine hK.out _ _ ?_ (fun hN=>?_)
     ·exact HS8.out _ (by first | exact hHeld.1.alloc _ | exact Below.drew ((Calm.refl _).alloc _))
     have hPre : Calm W wc0:=hHeld.1
     have hLo:=hPre.size
     have hZ:=FiveB.new wc0 (.bool false) (.slice none 0 0) (.bool false) (.slice none 0 0) (.bool false) 69
     clear hK K hHeld
     have hHeld:=hN
     clear hN
     try simp only [aP,Act.put]
     iterate 2
      refine wpAnyH_ready (rs:=[3]) (by kernel_rfl) (by simp) ?_
      refine AllReadyH.cons rfl (fun K hK=>?_) AllReadyH.nil
      go_simp
      refine (KLn2.out _).mono ?_
      rintro e wc1 ⟨rfl,hc1⟩
      refine hK.out _ _ ?_ (fun hN=>?_)
      ·exact HS8.out _ (hHeld.1.trans hc1)
      have hZ:=hZ.calm hc1
      clear hK K hHeld
      have hHeld:=hN
      clear hN
      try simp only [aP,Act.put]
      rotate_left
     refine wpAnyH_ready (rs:=[4,9]) (by kernel_rfl) (by simp) ?_
     refine AllReadyH.cons rfl (fun K hK=>?_) (AllReadyH.cons rfl (fun K hK=>?_) AllReadyH.nil)
     go_simp
     refine (KCh1.out _ hHeld.1).mono ?_
     rintro e wc2 ⟨⟨a2,rfl,hN2⟩,hc2⟩
     refine hK.out _ _ ?_ (fun hN=>?_)
     ·exact HS8.out _ (hHeld.1.trans hc2)
     have hP2:=hHeld.1.size
     clear hK K hHeld
     have hHeld:=hN
     clear hN
     try simp only [aP,Act.put]
     rotate_left
     go_simp
     refine hK.out _ _ ?_ (fun hN=>?_)
     ·exact HS8.out _ (by first | exact hHeld.1.alloc _ | exact Below.drew ((Calm.refl _).alloc _))
     have hPre : Calm W wc1:=hHeld.1
     have hLo:=hPre.size
     have hZ:=FiveB.new wc1 (.bool false) (.slice none 0 0) (.bool false) (.slice none 0 0) (.bool false) 69
     clear hK K hHeld
     have hHeld:=hN
     clear hN
     try simp only [aP,Act.put]
     iterate 3
      refine wpAnyH_ready (rs:=[4]) (by kernel_rfl) (by simp) ?_
      refine AllReadyH.cons rfl (fun K hK=>?_) AllReadyH.nil
      go_simp
      refine (KCh1.out _ hHeld.1).mono ?_
      rintro e wc2 ⟨⟨a2,rfl,hN2⟩,hc2⟩
      refine hK.out _ _ ?_ (fun hN=>?_)
      ·exact HS8.out _ (hHeld.1.trans hc2)
      have hP2:=hHeld.1.size
      have hbP:=hZ.lt
      have hZ:=hZ.calm hc2
      clear hK K hHeld
      have hHeld:=hN
      clear hN
      try simp only [aP,Act.put]
      rotate_left
     iterate 4
      refine tk 5 rfl ?_
      try simp only [aP,Act.put]
      refine tk 6 rfl ?_
      try simp only [aP,Act.put]
      refine tk 7 rfl ?_
      try simp only [aP,Act.put]
      refine tk 8 rfl ?_
      try simp only [aP,Act.put]
      rotate_left
     refine wpAnyH_ready (rs:=[9]) (by kernel_rfl) (by simp) ?_
     refine AllReadyH.cons rfl (fun K hK=>?_) AllReadyH.nil
     go_simp
     refine hK.out _ _ ?_ (fun hN=>?_)
     ·exact HS8.out _ (by first | exact hHeld.1.alloc _ | exact Below.drew ((Calm.refl _).alloc _))
     have hPre : Calm W wc2:=hHeld.1
     have hLo:=hPre.size
     have hZ:=FiveB.new wc2 (.bool false) (.slice none 0 0) (.bool false) (.slice none 0 0) (.bool false) 69
     clear hK K hHeld
     have hHeld:=hN
     clear hN
     try simp only [aP,Act.put]
     iterate 4
      have z:=hZ
      obtain ⟨-,z0,z1,z2,z3,z4,f⟩:=z
      have f0:=f 0
      have f1:=f 1
      have f2:=f 2
      have f3:=f 3
      have f4:=f 4
      refine wpAnyH_ready (rs:=[10]) (by kernel_rfl) (by simp) ?_
      refine AllReadyH.cons rfl (fun K hK=>?_) AllReadyH.nil
      go_simp
      refine hK.out _ _ ?_ (fun hN=>?_)
      ·first
        |exact HS8.out _ (calm5 hHeld.1 hLo _ _ _ _ _)
        |exact HS8.out _ (hPre.alloc _)
      clear hK K
      try simp only [aP,Act.put]
      refine tk 11 rfl ?_
      try simp only [aP,Act.put]
      refine tk 12 rfl ?_
      try simp only [aP,Act.put]
      refine wpAnyH_done (by kernel_rfl) ?_ _
      gi_wp2_with fail
      gi_meet
      case rel=>
       first
        |(refine ⟨_,a2,rfl,rfl,rfl,Lib.hid ?_⟩;with_reducible exact lineB_new hPre hP2 hN2)
        |(refine ⟨_,a2,rfl,rfl,rfl,Lib.hid ?_⟩;with_reducible exact lineB_set hZ hHeld.1 hLo hbP hP2 hN2)
    case rest=>
     obtain ⟨B10,a2,rfl,rfl,rfl,HLB⟩:=hcut
     obtain ⟨wx,rfl⟩ : ∃ wx,wx = wc:=⟨_,rfl⟩
     have HCx : Hid (Calm W wx):=HLB.out.calm
     obtain ⟨lx,hlx,hXp⟩:=(HU.out.1.calm HCx.out).h.places
     have hl64 : n1h ≤ 64 ∧ n2h ≤ 64:=⟨by rw [← HN1.out.1];exact (gErr_zero HGd.out.1.2).2.2,by rw [← HN1.out.2];exact (gErr_zero HGd.out.2.2).2.2⟩
     have HLx : Hid (lx.length = n1h ∧ lx.map (·.p) = x1.e.hs ∧ PatsX wx x1.HA lx):=⟨by rw [← HN1.out.1,← hlx,List.length_map],hlx,hXp⟩
     have KCl:=clonep_c lx x1.HA n1h x1.hc wx HLx.out.2.2.read HLx.out.1 (by omega)
     have k84:=(HFv.out.1.calm HCx.out).c4
     clear hlx hXp
     gi_wp2_with fail
     refine ⟨trivial,(calls_round KCl).mono ?_⟩
     rintro e w6 ⟨A6,c6,rfl,hown6⟩
     have HJ0 : Hid (BackJ wx w6 x1.e.rule x2.e.hs 0 lx [] (.slice A6 lx.length c6)):=⟨by rw [List.append_nil];exact hown6,rfl,fun y hy=>by cases hy⟩
     have HC6 : Hid (Calm W w6):=HCx.out.trans hown6.calm
     have k94:=(HFv.out.2.calm HC6.out).c4
     clear hown6 KCl k84
     gi_wp2_with fail
     gi_loopw [13,51] (fun v u wr=>∃ (k : Nat) (ys : List NewP),k ≤ n2h ∧ u = .int .i64 k ∧ Hid (BackJ wx wr x1.e.rule x2.e.hs k lx ys v)) (fun _ u _=>n2h - (intOf u).toNat)
     case atStart=>exact ⟨0,[],Nat.zero_le _,rfl,HJ0.out⟩
     case round=>
      obtain ⟨k,ys,hk,rfl,HJ⟩:=hrel
      clear k94 HJ0 HC6
      have HCr : Hid (Calm W wr):=HCx.out.trans HJ.out.own.calm
      by_cases hlk : k < n2h
      ·obtain ⟨b5,o5,p,Ap,cp,hA2,hb5,hp,c0,c1,hroom,hcap,hstr⟩:=(HU.out.2.calm HCr.out).h.get (k:=k) (by rw [HN1.out.2];exact hlk)
       obtain ⟨np,hnp⟩ : ∃ np,p.parts.length = np:=⟨_,rfl⟩
       obtain ⟨rp,hrp⟩ : ∃ rp,p.rest = rp:=⟨_,rfl⟩
       rw [hnp] at c0
       rw [hrp] at c1
       have HP:=Lib.hid hp
       have HPn : Hid (PatA wr Ap cp p ∧ p.parts.length = np ∧ p.rest = rp):=⟨⟨hstr,hroom,hcap⟩,hnp,hrp⟩
       obtain ⟨wb,hwb⟩ : ∃ wb,wb = wr.alloc (.cells #[.slice Ap np cp,.bool rp] 51):=⟨_,rfl⟩
       obtain ⟨B15,hB15⟩ : ∃ B15,wr.heap.size = B15:=⟨_,rfl⟩
       have HCb : Hid (Calm wr wb):=by
        show Below _ _ _
        rw [hwb]
        exact (Calm.refl _).alloc _
       have htb : TwoB wb B15 (.slice Ap np cp) (.bool rp):=by
        rw [hwb,← hB15]
        exact TwoB.new wr _ _ _
       have HS16 : Hid (∀ X,Calm wb X → Calm wb X ∧ X.cell? ⟨B8,0,none⟩ = some (.slice x1.LA n1l x1.lc) ∧ X.cell? ⟨B8,1,none⟩ = some (.bool b1l) ∧ X.cell? ⟨B8,2,none⟩ = some (.slice x1.RA n1r x1.rc) ∧ X.cell? ⟨B8,3,none⟩ = some (.bool b1r) ∧ X.cell? ⟨B8,4,none⟩ = some (.slice x1.HA n1h x1.hc) ∧ X.cell? ⟨B15,0,none⟩ = some (.slice Ap np cp) ∧ X.cell? ⟨B15,1,none⟩ = some (.bool rp)):=fun X hX=>by
        have a:=HFv.out.1.calm (HCr.out.trans (HCb.out.trans hX))
        have b:=htb.calm hX
        exact ⟨hX,a.c0,a.c1,a.c2,a.c3,a.c4,b.c0,b.c1⟩
       have KNq : Hid (∀ X,Calm wb X → Calls Tryz.prog 48 #[.agg #[.bool false,.slice x1.LA n1l x1.lc,.bool b1l,.slice x1.RA n1r x1.rc,.bool b1r],.agg #[.slice Ap np cp,.bool rp]] X fun e w'=>NarEnd (narR x1.e.rule p) X.heap.size e w' ∧ Calm X w'):=fun X hX=>KNr.out X p Ap cp np rp (HCr.out.trans (HCb.out.trans hX)) ((HPn.out.1.calm HCb.out).calm hX) HPn.out.2.1 HPn.out.2.2
       have HWb:=Lib.hid hwb
       have HB15:=Lib.hid hB15
       obtain ⟨⟨oq,xh⟩,hXh⟩ : ∃ X,narR x1.e.rule p = X:=⟨_,rfl⟩
       rw [hXh] at KNq
       have HXh:=Lib.hid hXh
       rw [hA2]
       clear hp hroom hcap hstr hnp hrp hwb hB15 htb hXh
       gi_upto_region 16 with (fail)
       rw [← HWb.out,HB15.out]
       clear c0 c1 hb5 HB15
       cases oq with
       |none=>
        have KNr1 : Hid (∀ X,Calm wb X → Calls Tryz.prog 48 #[.agg #[.bool false,.slice x1.LA n1l x1.lc,.bool b1l,.slice x1.RA n1r x1.rc,.bool b1r],.agg #[.slice Ap np cp,.bool rp]] X fun e w'=>e = .returned (.tuple #[.agg #[.bool false,.slice none 0 0,.bool false,.slice none 0 0,.bool false],.bool false,.int .i64 xh]) ∧ Calm X w'):=fun X hX=>(KNq.out X hX).mono fun e w' h=>by
         obtain ⟨h1,h2⟩:=h
         refine ⟨?_,h2⟩
         rcases h1 with ⟨_,h1⟩ | ⟨q,a3,h1,_⟩
         ·exact h1
         ·cases h1
        clear KNq KNr
        gi_cut [17,18] from 81 (fun s u wx=>s = .bool false ∧ u = .int .i64 xh ∧ Hid (Calm wb wx))
        case first=>
         clear HRet HGo HV1 HV2 HU HSz HGd HN1 HFv HCol HCw HBx HGW HZ HRd HEnt HLen HSm HRed HW HCR HV HW3 HW5 HG HG3 HG5 HSt hRsz hRG hGW hD5 hl hx1 hx2 hcn hcc hcn2 hcc2 HX HXh HJ HLx HP HPn HCr HLB KCh1 HMt HMz HM HCx HS8 HCb HWb
         refine region_round (S:=fun X=>Calm wb X ∧ X.cell? ⟨B8,0,none⟩ = some (.slice x1.LA n1l x1.lc) ∧ X.cell? ⟨B8,1,none⟩ = some (.bool b1l) ∧ X.cell? ⟨B8,2,none⟩ = some (.slice x1.RA n1r x1.rc) ∧ X.cell? ⟨B8,3,none⟩ = some (.bool b1r) ∧ X.cell? ⟨B8,4,none⟩ = some (.slice x1.HA n1h x1.hc) ∧ X.cell? ⟨B15,0,none⟩ = some (.slice Ap np cp) ∧ X.cell? ⟨B15,1,none⟩ = some (.bool rp)) (by kernel_rfl) (by kernel_rfl) (fun ⟨_,_,h⟩=>h) (HS16.out _ (Below.drew (Calm.refl _))) (fun hHeld=>?_)
         refine tk 0 rfl ?_
         try simp only [aP,Act.put]
         refine tk 2 rfl ?_
         try simp only [aP,Act.put]
         refine wpAnyH_ready (rs:=[1,8]) (by kernel_rfl) (by simp) ?_
         refine AllReadyH.cons rfl (fun K hK=>?_) (AllReadyH.cons rfl (fun K hK=>?_) AllReadyH.nil)
         go_simp
         refine (KLn1.out _).mono ?_
         rintro e wc0 ⟨rfl,hc0⟩
         refine hK.out _ _ ?_ (fun hN=>?_)
         ·exact HS16.out _ (hHeld.1.trans hc0)
         clear hK K hHeld
         have hHeld:=hN
         clear hN
         try simp only [aP,Act.put]
         rotate_left
         go_simp
         refine hK.out _ _ ?_ (fun hN=>?_)
         ·exact HS16.out _ (by first | exact hHeld.1.alloc _ | exact Below.drew ((Calm.refl _).alloc _))
         have hLo:=Nat.le_refl wb.heap.size
         have hZ:=five_drew wb 69 (v0:=.bool false) (v1:=.slice none 0 0) (v2:=.bool false) (v3:=.slice none 0 0) (v4:=.bool false)
         clear hK K hHeld
         have hHeld:=hN
         clear hN
         try simp only [aP,Act.put]
         refine wpAnyH_ready (rs:=[1]) (by kernel_rfl) (by simp) ?_
         refine AllReadyH.cons rfl (fun K hK=>?_) AllReadyH.nil
         go_simp
         refine (KLn1.out _).mono ?_
         rintro e wc0 ⟨rfl,hc0⟩
         refine hK.out _ _ ?_ (fun hN=>?_)
         ·exact HS16.out _ (hHeld.1.trans hc0)
         have hZ:=hZ.calm hc0
         clear hK K hHeld
         have hHeld:=hN
         clear hN
         try simp only [aP,Act.put]
         rotate_left
         refine wpAnyH_ready (rs:=[3,8]) (by kernel_rfl) (by simp) ?_
         refine AllReadyH.cons rfl (fun K hK=>?_) (AllReadyH.cons rfl (fun K hK=>?_) AllReadyH.nil)
         go_simp
         refine (KNr1.out _ hHeld.1).mono ?_
         rintro e wc1 ⟨rfl,hc1⟩
         refine hK.out _ _ ?_ (fun hN=>?_)
         ·exact HS16.out _ (hHeld.1.trans hc1)
         have hP2:=hHeld.1.size
         clear hK K hHeld
         have hHeld:=hN
         clear hN
         try simp only [aP,Act.put]
         rotate_left
         go_simp
         refine hK.out _ _ ?_ (fun hN=>?_)
         ·exact HS16.out _ (by first | exact hHeld.1.alloc _ | exact Below.drew ((Calm.refl _).alloc _))
         have hPre : Calm wb wc0:=hHeld.1
         have hLo:=hPre.size
         have hZ:=FiveB.new wc0 (.bool false) (.slice none 0 0) (.bool false) (.slice none 0 0) (.bool false) 69
         clear hK K hHeld
         have hHeld:=hN
         clear hN
         try simp only [aP,Act.put]
         iterate 2
          refine wpAnyH_ready (rs:=[3]) (by kernel_rfl) (by simp) ?_
          refine AllReadyH.cons rfl (fun K hK=>?_) AllReadyH.nil
          go_simp
          refine (KNr1.out _ hHeld.1).mono ?_
          rintro e wc1 ⟨rfl,hc1⟩
          refine hK.out _ _ ?_ (fun hN=>?_)
          ·exact HS16.out _ (hHeld.1.trans hc1)
          have hP2:=hHeld.1.size
          have hbP:=hZ.lt
          have hZ:=hZ.calm hc1
          clear hK K hHeld
          have hHeld:=hN
          clear hN
          try simp only [aP,Act.put]
          rotate_left
         iterate 3
          refine tk 4 rfl ?_
          try simp only [aP,Act.put]
          refine tk 5 rfl ?_
          try simp only [aP,Act.put]
          refine tk 6 rfl ?_
          try simp only [aP,Act.put]
          refine tk 7 rfl ?_
          try simp only [aP,Act.put]
          rotate_left
         refine wpAnyH_ready (rs:=[8]) (by kernel_rfl) (by simp) ?_
         refine AllReadyH.cons rfl (fun K hK=>?_) AllReadyH.nil
         go_simp
         refine hK.out _ _ ?_ (fun hN=>?_)
         ·exact HS16.out _ (by first | exact hHeld.1.alloc _ | exact Below.drew ((Calm.refl _).alloc _))
         have hPre : Calm wb wc1:=hHeld.1
         have hLo:=hPre.size
         have hZ:=FiveB.new wc1 (.bool false) (.slice none 0 0) (.bool false) (.slice none 0 0) (.bool false) 69
         clear hK K hHeld
         have hHeld:=hN
         clear hN
         try simp only [aP,Act.put]
         iterate 3
          have z:=hZ
          obtain ⟨-,z0,z1,z2,z3,z4,f⟩:=z
          have f0:=f 0
          have f1:=f 1
          have f2:=f 2
          have f3:=f 3
          have f4:=f 4
          refine wpAnyH_ready (rs:=[9]) (by kernel_rfl) (by simp) ?_
          refine AllReadyH.cons rfl (fun K hK=>?_) AllReadyH.nil
          go_simp
          refine hK.out _ _ ?_ (fun hN=>?_)
          ·first
            |exact HS16.out _ (calm5 hHeld.1 hLo _ _ _ _ _)
            |exact HS16.out _ (hPre.alloc _)
          clear hK K
          try simp only [aP,Act.put]
          refine tk 10 rfl ?_
          try simp only [aP,Act.put]
          refine tk 11 rfl ?_
          try simp only [aP,Act.put]
          refine wpAnyH_done (by kernel_rfl) ?_ _
          gi_wp2_with fail
          gi_meet
          case rel=>exact ⟨rfl,rfl,hN.1⟩
        case rest=>
         obtain ⟨rfl,rfl,HR2⟩:=hcut
         have HCc : Hid (Calm W wc):=HCr.out.trans (HCb.out.trans HR2.out)
         by_cases hxh0 : xh = 0
         ·subst hxh0
          have HJ2:=Lib.hid (HJ.out.miss HP.out (by rw [HXh.out]) (by rw [HXh.out]) (HCb.out.trans HR2.out))
          gi_wp2_with fail
          go_roundw
          case rel=>exact ⟨k + 1,ys,by omega,by go_num,HJ2.out⟩
          case measure=>simp [intOf];omega
         ·have HOf : Hid (comOf x1.e x2.e = none):=comOf_far (by rw [HX.out]) (by rw [HX.out]) (HJ.out.stop HP.out (by rw [HXh.out];exact hxh0))
          have hb : (xh != 0) = true:=by simpa using hxh0
          have b1:=boxed_calm HCR.out.2.2.1 (HGW.out.trans HCc.out)
          have b2:=boxed_calm HCR.out.2.2.2.1 (HGW.out.trans HCc.out)
          have k1:=b1.cell
          have k2:=b2.cell
          have f1:=b1.frozen
          have f2:=b2.frozen
          clear b1 b2
          clear hxh0
          gi_wp2_with fail
          have h:=HRet.out HOf.out wc (HGW.out.trans HCc.out) (KeepG.calm HCc.out) HCc.out.size
          exact ⟨h.1,⟨⟨⟨rfl,h.2.1⟩,h.2.2.1⟩,h.2.2.2.1⟩,h.2.2.2.2⟩
       |some q=>
        obtain ⟨rfl,hqe⟩ : xh = 0 ∧ q.excl = false:=by
         have h1 : (narR x1.e.rule p).1 = some q:=by rw [HXh.out]
         have h2:=narR_snd h1
         rw [HXh.out] at h2
         exact h2
        have hq1 : (narR x1.e.rule p).1 = some q:=by rw [HXh.out]
        have hqs:=narR_size hq1 (L:=250) (by decide) HSz.out.1.ls HSz.out.1.rs ((HSz.out.2.h p (List.mem_of_getElem? HP.out)).2)
        have hqg:=(backHs_len (r:=x1.e.rule) HGd.out.1.1 (hs:=[p]) (ks:=[q.left]) (by unfold backHs backHs;rw [HXh.out];rfl)).1 q.left (by simp)
        obtain ⟨ql,hql⟩ : ∃ ql,q.left.parts.length = ql:=⟨_,rfl⟩
        obtain ⟨qr,hqr⟩ : ∃ qr,q.right.parts.length = qr:=⟨_,rfl⟩
        obtain ⟨tql,htql⟩ : ∃ tql,q.left.rest = tql:=⟨_,rfl⟩
        obtain ⟨tqr,htqr⟩ : ∃ tqr,q.right.rest = tqr:=⟨_,rfl⟩
        have KNr1 : Hid (∀ X,Calm wb X → Calls Tryz.prog 48 #[.agg #[.bool false,.slice x1.LA n1l x1.lc,.bool b1l,.slice x1.RA n1r x1.rc,.bool b1r],.agg #[.slice Ap np cp,.bool rp]] X fun e w'=>(∃ a3,e = .returned (.tuple #[.agg #[.bool false,.slice a3.AL ql a3.cl,.bool tql,.slice a3.AR qr a3.cr,.bool tqr],.bool true,.int .i64 0]) ∧ RuleN w' X.heap.size a3 q) ∧ Calm X w'):=fun X hX=>(KNq.out X hX).mono fun e w' h=>by
         obtain ⟨h1,h2⟩:=h
         refine ⟨?_,h2⟩
         rcases h1 with ⟨h1,_⟩ | ⟨q',a3,h1,h3,h4⟩
         ·cases h1
         ·obtain rfl : q = q':=by simpa using h1
          refine ⟨a3,?_,h4⟩
          rw [h3]
          unfold ruleV
          rw [hqe,hql,hqr,htql,htqr]
        have HQ:=Lib.hid (And.intro hq1 (And.intro hqs (And.intro hqg (And.intro hql htql))))
        clear KNq KNr hq1 hqs hqg hqe hql hqr htql htqr
        gi_cut [16,17,18] from 81 (fun s t u wx=>∃ B16 a3,s = .pointer (some ⟨B16,0,none⟩) ∧ t = .bool true ∧ u = .int .i64 0 ∧ Hid (LineB wb wx B16 wb.heap.size a3 q (.bool false) (.slice a3.AL ql a3.cl) (.bool tql) (.slice a3.AR qr a3.cr) (.bool tqr)))
        case first=>
         clear HRet HGo HV1 HV2 HU HSz HGd HN1 HFv HCol HCw HBx HGW HZ HRd HEnt HLen HSm HRed HW HCR HV HW3 HW5 HG HG3 HG5 HSt hRsz hRG hGW hD5 hl hx1 hx2 hcn hcc hcn2 hcc2 HX HXh HQ HJ HLx HP HPn HCr HLB KCh1 HMt HMz HM HCx HS8 HCb HWb
         refine region_round (S:=fun X=>Calm wb X ∧ X.cell? ⟨B8,0,none⟩ = some (.slice x1.LA n1l x1.lc) ∧ X.cell? ⟨B8,1,none⟩ = some (.bool b1l) ∧ X.cell? ⟨B8,2,none⟩ = some (.slice x1.RA n1r x1.rc) ∧ X.cell? ⟨B8,3,none⟩ = some (.bool b1r) ∧ X.cell? ⟨B8,4,none⟩ = some (.slice x1.HA n1h x1.hc) ∧ X.cell? ⟨B15,0,none⟩ = some (.slice Ap np cp) ∧ X.cell? ⟨B15,1,none⟩ = some (.bool rp)) (by kernel_rfl) (by kernel_rfl) (fun ⟨_,_,h⟩=>h) (HS16.out _ (Below.drew (Calm.refl _))) (fun hHeld=>?_)
         refine tk 0 rfl ?_
         try simp only [aP,Act.put]
         refine tk 2 rfl ?_
         try simp only [aP,Act.put]
         refine wpAnyH_ready (rs:=[1,8]) (by kernel_rfl) (by simp) ?_
         refine AllReadyH.cons rfl (fun K hK=>?_) (AllReadyH.cons rfl (fun K hK=>?_) AllReadyH.nil)
         go_simp
         refine (KLn1.out _).mono ?_
         rintro e wc0 ⟨rfl,hc0⟩
         refine hK.out _ _ ?_ (fun hN=>?_)
         ·exact HS16.out _ (hHeld.1.trans hc0)
         clear hK K hHeld
         have hHeld:=hN
         clear hN
         try simp only [aP,Act.put]
         rotate_left
         go_simp
         refine hK.out _ _ ?_ (fun hN=>?_)
         ·exact HS16.out _ (by first | exact hHeld.1.alloc _ | exact Below.drew ((Calm.refl _).alloc _))
         have hLo:=Nat.le_refl wb.heap.size
         have hZ:=five_drew wb 69 (v0:=.bool false) (v1:=.slice none 0 0) (v2:=.bool false) (v3:=.slice none 0 0) (v4:=.bool false)
         clear hK K hHeld
         have hHeld:=hN
         clear hN
         try simp only [aP,Act.put]
         refine wpAnyH_ready (rs:=[1]) (by kernel_rfl) (by simp) ?_
         refine AllReadyH.cons rfl (fun K hK=>?_) AllReadyH.nil
         go_simp
         refine (KLn1.out _).mono ?_
         rintro e wc0 ⟨rfl,hc0⟩
         refine hK.out _ _ ?_ (fun hN=>?_)
         ·exact HS16.out _ (hHeld.1.trans hc0)
         have hZ:=hZ.calm hc0
         clear hK K hHeld
         have hHeld:=hN
         clear hN
         try simp only [aP,Act.put]
         rotate_left
         refine wpAnyH_ready (rs:=[3,8]) (by kernel_rfl) (by simp) ?_
         refine AllReadyH.cons rfl (fun K hK=>?_) (AllReadyH.cons rfl (fun K hK=>?_) AllReadyH.nil)
         go_simp
         refine (KNr1.out _ hHeld.1).mono ?_
         rintro e wc1 ⟨⟨a3,rfl,hN2⟩,hc1⟩
         refine hK.out _ _ ?_ (fun hN=>?_)
         ·exact HS16.out _ (hHeld.1.trans hc1)
         have hP2:=hHeld.1.size
         clear hK K hHeld
         have hHeld:=hN
         clear hN
         try simp only [aP,Act.put]
         rotate_left
         go_simp
         refine hK.out _ _ ?_ (fun hN=>?_)
         ·exact HS16.out _ (by first | exact hHeld.1.alloc _ | exact Below.drew ((Calm.refl _).alloc _))
         have hPre : Calm wb wc0:=hHeld.1
         have hLo:=hPre.size
         have hZ:=FiveB.new wc0 (.bool false) (.slice none 0 0) (.bool false) (.slice none 0 0) (.bool false) 69
         clear hK K hHeld
         have hHeld:=hN
         clear hN
         try simp only [aP,Act.put]
         iterate 2
          refine wpAnyH_ready (rs:=[3]) (by kernel_rfl) (by simp) ?_
          refine AllReadyH.cons rfl (fun K hK=>?_) AllReadyH.nil
          go_simp
          refine (KNr1.out _ hHeld.1).mono ?_
          rintro e wc1 ⟨⟨a3,rfl,hN2⟩,hc1⟩
          refine hK.out _ _ ?_ (fun hN=>?_)
          ·exact HS16.out _ (hHeld.1.trans hc1)
          have hP2:=hHeld.1.size
          have hbP:=hZ.lt
          have hZ:=hZ.calm hc1
          clear hK K hHeld
          have hHeld:=hN
          clear hN
          try simp only [aP,Act.put]
          rotate_left
         iterate 3
          refine tk 4 rfl ?_
          try simp only [aP,Act.put]
          refine tk 5 rfl ?_
          try simp only [aP,Act.put]
          refine tk 6 rfl ?_
          try simp only [aP,Act.put]
          refine tk 7 rfl ?_
          try simp only [aP,Act.put]
          rotate_left
         refine wpAnyH_ready (rs:=[8]) (by kernel_rfl) (by simp) ?_
         refine AllReadyH.cons rfl (fun K hK=>?_) AllReadyH.nil
         go_simp
         refine hK.out _ _ ?_ (fun hN=>?_)
         ·exact HS16.out _ (by first | exact hHeld.1.alloc _ | exact Below.drew ((Calm.refl _).alloc _))
         have hPre : Calm wb wc1:=hHeld.1
         have hLo:=hPre.size
         have hZ:=FiveB.new wc1 (.bool false) (.slice none 0 0) (.bool false) (.slice none 0 0) (.bool false) 69
         clear hK K hHeld
         have hHeld:=hN
         clear hN
         try simp only [aP,Act.put]
         iterate 3
          have z:=hZ
          obtain ⟨-,z0,z1,z2,z3,z4,f⟩:=z
          have f0:=f 0
          have f1:=f 1
          have f2:=f 2
          have f3:=f 3
          have f4:=f 4
          refine wpAnyH_ready (rs:=[9]) (by kernel_rfl) (by simp) ?_
          refine AllReadyH.cons rfl (fun K hK=>?_) AllReadyH.nil
          go_simp
          refine hK.out _ _ ?_ (fun hN=>?_)
          ·first
            |exact HS16.out _ (calm5 hHeld.1 hLo _ _ _ _ _)
            |exact HS16.out _ (hPre.alloc _)
          clear hK K
          try simp only [aP,Act.put]
          refine tk 10 rfl ?_
          try simp only [aP,Act.put]
          refine tk 11 rfl ?_
          try simp only [aP,Act.put]
          refine wpAnyH_done (by kernel_rfl) ?_ _
          gi_wp2_with fail
          gi_meet
          case rel=>
           first
            |(refine ⟨_,a3,rfl,rfl,rfl,Lib.hid ?_⟩;with_reducible exact lineB_new hPre hP2 hN2)
            |(refine ⟨_,a3,rfl,rfl,rfl,Lib.hid ?_⟩;with_reducible exact lineB_set hZ hHeld.1 hLo hbP hP2 hN2)
        case rest=>
         obtain ⟨B16,a3,rfl,rfl,rfl,HR2⟩:=hcut
         have HCc : Hid (Calm wr wc):=HCb.out.trans HR2.out.calm
         have d:=HR2.out.five
         have d0:=d.c0
         have d1:=d.c1
         have d2:=d.c2
         have d3:=d.c3
         have d4:=d.c4
         have hn16 : SmallN wc wx.heap.size ⟨a3.AL,a3.cl,q.left⟩:=⟨HR2.out.new.l.mono (HJ.out.own.calm.trans HCb.out).size,by have:=(patErr_iff.1 HQ.out.2.2.1).2.2.1;show q.left.parts.length ≤ _;omega,fun s hs'=>by have:=HQ.out.2.1 s hs';omega⟩
         have HN16:=Lib.hid hn16
         have hlen : (lx ++ ys).length + 1 ≤ 1000000:=by
          have h1:=HJ.out.len HGd.out.1.1 (by rw [HN1.out.2];omega)
          have h2:=HLx.out.1
          rw [List.length_append]
          omega
         clear d hn16
         gi_wp2_with (gi_at_builtin;refine wpListIn_append_ps rfl (.tmp 66) (.tmp 69) rfl wx _ (lx ++ ys) [⟨a3.AL,a3.cl,q.left⟩] rfl (HJ.out.own.to (HCc.out.alloc _)) _ 1 1 rfl rfl (read_newH ⟨a3.AL,a3.cl,q.left⟩ rfl HQ.out.2.2.2.1 HQ.out.2.2.2.2) hlen ?_;intro v7 w7 hown7 hg7;obtain ⟨A7,c7,hv0⟩:=hown7.len_shape;obtain ⟨L7,hL7⟩ : ∃ L7,((lx ++ ys) ++ [(⟨a3.AL,a3.cl,q.left⟩ : NewP)]).length = L7:=⟨_,rfl⟩;rw [hL7] at hv0;subst hv0;clear hL7)
         have HJ2:=Lib.hid (HJ.out.hit (x:=⟨a3.AL,a3.cl,q.left⟩) HP.out (by rw [HXh.out]) HQ.out.1 rfl (HCc.out.alloc _) (HN16.out.calm ((Calm.refl _).alloc _)) hg7 hown7)
         go_roundw
         case rel=>exact ⟨k + 1,ys ++ [(⟨a3.AL,a3.cl,q.left⟩ : NewP)],by omega,by go_num,HJ2.out⟩
         case measure=>simp [intOf];omega
      ·obtain rfl : k = n2h:=by omega
       obtain ⟨A9,c9,hv9⟩:=HJ.out.own.len_shape
       obtain ⟨N9,hN9⟩ : ∃ N9,(lx ++ ys).length = N9:=⟨_,rfl⟩
       rw [hN9] at hv9
       subst hv9
       have hbk:=HJ.out.all (by rw [HN1.out.2];exact Nat.le_refl _)
       have hmap : (lx ++ ys).map (·.p) = x1.e.hs ++ ys.map (·.p):=by rw [List.map_append,HLx.out.2.1]
       obtain ⟨hs9,hhs9⟩ : ∃ hs9,x1.e.hs ++ ys.map (·.p) = hs9:=⟨_,rfl⟩
       have hlen9 : N9 ≤ 16384:=by
        have h1:=HJ.out.len HGd.out.1.1 (by rw [HN1.out.2];exact Nat.le_refl _)
        have h2:=HLx.out.1
        rw [← hN9,List.length_append]
        omega
       have HOf : Hid (comOf x1.e x2.e = putH m hs9):=by
        show _ = _
        rw [comOf_put (by rw [HX.out]) HM.out.1 hbk,hhs9]
       have hg9 : ∀ p ∈ hs9,patErr p = 0:=fun p hp=>by
        rw [← hhs9] at hp
        rcases List.mem_append.1 hp with hp | hp
        ·exact (gErr_zero HGd.out.1.2).2.1 p hp
        ·exact (backHs_len HGd.out.1.1 hbk).1 p hp
       have hP9 : PatsR wr A9 hs9:=by
        have hrd:=own_readsR HJ.out.own (fun z hz=>by
         rcases List.mem_append.1 hz with h | h
         ·exact (HLx.out.2.2.each z h).calm HJ.out.own.calm
         ·exact (HJ.out.each z h).a) (by rw [hN9];exact hlen9)
        rw [hmap,hhs9] at hrd
        exact hrd
       have hnew:=HLB.out.new
       have hcr:=HJ.out.own.calm
       have hL9 : PatA wr a2.AL a2.cl m.left:=⟨(hnew.l.calm hcr).u.toR (by have:=(patErr_iff.1 HMt.out.lp).2.2.1;omega) (fun s hs'=>by have:=HMz.out.1 s hs';omega),hnew.l.room,hnew.l.cap⟩
       have hR9 : PatA wr a2.AR a2.cr m.right:=⟨(hnew.r.calm hcr).u.toR (by have:=(patErr_iff.1 HMt.out.rp).2.2.1;omega) (fun s hs'=>by have:=HMz.out.2.1 s hs';omega),hnew.r.room,hnew.r.cap⟩
       have hlen : hs9.length = N9:=by rw [← hhs9,← hmap,List.length_map,hN9]
       have KP:=put_n wR W wr G out m hs9 a2 false ml mr N9 c9 tl tr A9 HCol.out HCr.out hL9 hR9 HM.out.2.1 HM.out.2.2.1 HM.out.2.2.2.1 HM.out.2.2.2.2 (fun X hX=>HRed.out m.left hs9 a2.AL a2.cl A9 ml N9 c9 tl X (hL9.calm hX) (hP9.calm hX) HM.out.2.1 HM.out.2.2.2.1 hlen HMt.out.lp hg9)
       have d:=HLB.out.five.calm hcr
       have d0:=d.c0
       have d1:=d.c1
       have d2:=d.c2
       have d3:=d.c3
       have d4:=d.c4
       obtain ⟨PH,hPH⟩ : ∃ PH,putH m hs9 = PH:=⟨_,rfl⟩
       rw [hPH] at HOf
       have HPH:=Lib.hid hPH
       have HKP:=Lib.hid KP
       clear hN9 hbk hmap hhs9 hlen9 hg9 hP9 hnew hcr hL9 hR9 hlen KP d hPH
       cases PH with
       |none=>
        have KP1 : Hid (Calls Tryz.prog 49 #[.pointer (some ⟨G,0,none⟩),.agg #[.bool false,.slice a2.AL ml a2.cl,.bool tl,.slice a2.AR mr a2.cr,.bool tr],.slice A9 N9 c9] wr fun e w'=>e = .returned (.int .i64 72) ∧ Calm wR w' ∧ KeepG W w' G ∧ KeepR W w' G):=HKP.out.mono fun e w' h=>by
         obtain ⟨h1,h2⟩:=PutEnd.none h.1.1 HPH.out
         exact ⟨h1,h2.calm,KeepG.after HCr.out h.2.1,(KeepR.calm hGW HCr.out).trans h.2.2⟩
        gi_wp2_with fail
        refine ⟨trivial,(calls_round KP1.out).mono ?_⟩
        rintro e w8 ⟨rfl,hc8,hkg,hkr⟩
        have b1:=boxed_calm HCR.out.2.2.1 hc8
        have b2:=boxed_calm HCR.out.2.2.2.1 hc8
        have k1:=b1.cell
        have k2:=b2.cell
        have f1:=b1.frozen
        have f2:=b2.frozen
        clear b1 b2
        gi_wp2_with fail
        have h:=HRet.out HOf.out w8 hc8 hkg hkr.size
        exact ⟨h.1,⟨⟨⟨rfl,h.2.1⟩,h.2.2.1⟩,h.2.2.2.1⟩,h.2.2.2.2⟩
       |some oo=>
        have KP1 : Hid (Calls Tryz.prog 49 #[.pointer (some ⟨G,0,none⟩),.agg #[.bool false,.slice a2.AL ml a2.cl,.bool tl,.slice a2.AR mr a2.cr,.bool tr],.slice A9 N9 c9] wr fun e w'=>e = .returned (.int .i64 0) ∧ ColA wR w' G (out ++ oo.toList) ∧ KeepG W w' G ∧ KeepR W w' G):=HKP.out.mono fun e w' h=>by
         obtain ⟨h1,h2⟩:=PutEnd.some h.1.1 HPH.out
         exact ⟨h1,h2,KeepG.after HCr.out h.2.1,(KeepR.calm hGW HCr.out).trans h.2.2⟩
        gi_wp2_with fail
        refine ⟨trivial,(calls_round KP1.out).mono ?_⟩
        rintro e w8 ⟨rfl,hc8,hkg,hkr⟩
        gi_wp2_with fail
        exact HGo.out oo HOf.out w8 hc8 hkg hkr
  case done=>
   rintro D ys W hD hS ⟨out,hcl,hcol⟩ hK
   have hD5:=HG5.out
   have hcw : Calm w W:=HCR.out.1.trans hcol.calm
   have hpl : comL (pairsL es fs) = some out:=by
    rw [← HZ.out.1,← HZ.out.2,← pz_e hS]
    exact hcl
   have HV2:=Lib.hid (HV.out.2.2.1 out hpl)
   have b1:=boxed_calm HCR.out.2.2.1 hcol.calm
   have b2:=boxed_calm HCR.out.2.2.2.1 hcol.calm
   have k1:=b1.cell
   have k2:=b2.cell
   have f1:=b1.frozen
   have f2:=b2.frozen
   have HF:=colA_fin wR W G out hcol
   have HCw:=Lib.hid hcw
   have hbd : w.heap.size < wR.heap.size ∧ w.heap.size + 1 < wR.heap.size:=by have:=HCR.out.2.2.2.2;omega
   clear b1 b2 hcol hcl hS hcw hpl HV
   rcases HF with ⟨h32,KF⟩ | ⟨h32,A9,c9,hF,KF⟩
   ·rw [if_pos h32] at HV2
    gi_wp2_with fail
    refine ⟨trivial,(callsIn_wide.2 KF).mono ?_⟩
    rintro e w' ⟨rfl,hww⟩
    obtain rfl : W = w':=hww.symm
    gi_wp2_with fail
    have r1 : ((W.setCell ⟨w.heap.size,0,none⟩ (.slice none 0 0)).setCell ⟨w.heap.size + 1,0,none⟩ (.int .i64 72)).cell? ⟨w.heap.size,0,none⟩ = some (.slice none 0 0):=(World.cell?_setCell_other _ _ _ _ (by simp)).trans (World.cell?_setCell_same' _ _ _ (by rw [k1];rfl))
    have r2 : ((W.setCell ⟨w.heap.size,0,none⟩ (.slice none 0 0)).setCell ⟨w.heap.size + 1,0,none⟩ (.int .i64 72)).cell? ⟨w.heap.size + 1,0,none⟩ = some (.int .i64 72):=World.cell?_setCell_same' _ _ _ (by rw [World.cell?_setCell_other _ _ _ _ (by simp),k2];rfl)
    have hK2:=(KeepsOthers.setCell (W.setCell ⟨w.heap.size,0,none⟩ (.slice none 0 0)) ⟨w.heap.size + 1,0,none⟩ (.int .i64 72)).same D _ ((KeepsOthers.setCell W ⟨w.heap.size,0,none⟩ (.slice none 0 0)).same D _ hK rfl) rfl
    have t : Turn ((W.setCell ⟨w.heap.size,0,none⟩ (.slice none 0 0)).setCell ⟨w.heap.size + 1,0,none⟩ (.int .i64 72)) (((W.setCell ⟨w.heap.size,0,none⟩ (.slice none 0 0)).setCell ⟨w.heap.size + 1,0,none⟩ (.int .i64 72)).putObj D (.deferred none)):=Turn.of (grownBy_putObj' _ D _) (fun r e=>by cases e;exact ⟨_,hK2,rfl⟩)
    have s1:=t.cell r1
    have s2:=t.cell r2
    refine ⟨by simp,.inl ⟨_,_,rfl,run_takeDeferred hK2,?_⟩⟩
    refine ⟨.tuple #[.slice none 0 0,.int .i64 72],?_,?_,?_⟩
    ·rw [results_cc rfl]
     simp [go_sem,s1,s2,Result.andThen]
    ·rw [HV2.out]
     exact entOut_err _ _ _
    ·exact Below.trans (Below.setCell (p:=⟨w.heap.size + 1,0,none⟩) (Below.setCell (p:=⟨w.heap.size,0,none⟩) HCw.out (Nat.le_refl _) _) (Nat.le_succ _) _) (belowK_b (w:=w) (Nat.le_refl _) _ D _ _ (by omega) hK2 rfl rfl)
   ·rw [if_neg (by omega)] at HV2
    obtain ⟨L9,hL9⟩ : ∃ L9,out.length = L9:=⟨_,rfl⟩
    have HL9:=Lib.hid hL9
    have HF9:=Lib.hid hF
    rw [hL9] at KF
    clear hL9 hF
    gi_wp2_with fail
    refine ⟨trivial,(callsIn_wide.2 KF).mono ?_⟩
    rintro e w' ⟨rfl,hww⟩
    obtain rfl : W = w':=hww.symm
    gi_wp2_with fail
    have r1 : ((W.setCell ⟨w.heap.size,0,none⟩ (.slice A9 L9 c9)).setCell ⟨w.heap.size + 1,0,none⟩ (.int .i64 0)).cell? ⟨w.heap.size,0,none⟩ = some (.slice A9 L9 c9):=(World.cell?_setCell_other _ _ _ _ (by simp)).trans (World.cell?_setCell_same' _ _ _ (by rw [k1];rfl))
    have r2 : ((W.setCell ⟨w.heap.size,0,none⟩ (.slice A9 L9 c9)).setCell ⟨w.heap.size + 1,0,none⟩ (.int .i64 0)).cell? ⟨w.heap.size + 1,0,none⟩ = some (.int .i64 0):=World.cell?_setCell_same' _ _ _ (by rw [World.cell?_setCell_other _ _ _ _ (by simp),k2];rfl)
    have hK2:=(KeepsOthers.setCell (W.setCell ⟨w.heap.size,0,none⟩ (.slice A9 L9 c9)) ⟨w.heap.size + 1,0,none⟩ (.int .i64 0)).same D _ ((KeepsOthers.setCell W ⟨w.heap.size,0,none⟩ (.slice A9 L9 c9)).same D _ hK rfl) rfl
    have t : Turn ((W.setCell ⟨w.heap.size,0,none⟩ (.slice A9 L9 c9)).setCell ⟨w.heap.size + 1,0,none⟩ (.int .i64 0)) (((W.setCell ⟨w.heap.size,0,none⟩ (.slice A9 L9 c9)).setCell ⟨w.heap.size + 1,0,none⟩ (.int .i64 0)).putObj D (.deferred none)):=Turn.of (grownBy_putObj' _ D _) (fun r e=>by cases e;exact ⟨_,hK2,rfl⟩)
    have s1:=t.cell r1
    have s2:=t.cell r2
    refine ⟨by simp,.inl ⟨_,_,rfl,run_takeDeferred hK2,?_⟩⟩
    refine ⟨.tuple #[.slice A9 L9 c9,.int .i64 0],?_,?_,?_⟩
    ·rw [results_cc rfl]
     simp [go_sem,s1,s2,Result.andThen]
    ·rw [HV2.out]
     have hf:=((HF9.out.set (p:=⟨w.heap.size,0,none⟩) (.slice A9 L9 c9) hbd.1).set (p:=⟨w.heap.size + 1,0,none⟩) (.int .i64 0) hbd.2).turn t
     have:=hf.out (B:=w.heap.size) hRsz
     rw [HL9.out] at this
     exact this
    ·exact Below.trans (Below.setCell (p:=⟨w.heap.size + 1,0,none⟩) (Below.setCell (p:=⟨w.heap.size,0,none⟩) HCw.out (Nat.le_refl _) _) (Nat.le_succ _) _) (belowK_b (w:=w) (Nat.le_refl _) _ D _ _ (by omega) hK2 rfl rfl)
  case stop=>
   rintro D cc pre W hD hSp ⟨⟨⟨⟨rfl,hno⟩,k1⟩,k2⟩,hB⟩ hK
   have hD5:=HG5.out
   have HV2 : Hid (comE es fs = ([],72)):=HV.out.2.2.2 (by rw [← HZ.out.1,← HZ.out.2];exact pz_stop hSp hno)
   gi_wp2_with fail
   have t : Turn W (W.putObj D (.deferred none)):=Turn.of (grownBy_putObj' W D _) (fun r e=>by cases e;exact ⟨_,hK,rfl⟩)
   refine ⟨by simp,.inl ⟨_,_,rfl,run_takeDeferred hK,?_⟩⟩
   have r1:=t.cell k1
   have r2:=t.cell k2
   refine ⟨.tuple #[.slice none 0 0,.int .i64 72],?_,?_,?_⟩
   ·rw [results_cc rfl]
    simp [go_sem,r1,r2,Result.andThen]
   ·rw [HV2.out]
    exact entOut_err _ _ _
   ·exact Below.trans hB (belowK_b (w:=w) (Nat.le_refl _) W D _ _ (by omega) hK rfl rfl)
 ·have HV:=HE0 h0
  have hb : (er != 0) = true:=by simpa using h0
  clear HE0 HE1 h0
  gi_wp2_with fail
  rw [← HW.out]
  refine ⟨trivial,(callsIn_wide.2 HKC.out).mono ?_⟩
  rintro e w2 ⟨rfl,hc2⟩
  have hcw : Calm wR w2:=HCR.out.2.1.trans hc2
  have b1:=boxed_calm HCR.out.2.2.1 hcw
  have b2:=boxed_calm HCR.out.2.2.2.1 hcw
  have k1:=b1.cell
  have k2:=b2.cell
  have f1:=b1.frozen
  have f2:=b2.frozen
  have HCw : Hid (Calm w w2):=HCR.out.1.trans hcw
  clear b1 b2 hcw hc2
  gi_wp2_with fail
  have r1 : ((w2.setCell ⟨w.heap.size,0,none⟩ (.slice none 0 0)).setCell ⟨w.heap.size + 1,0,none⟩ (.int .i64 er)).cell? ⟨w.heap.size,0,none⟩ = some (.slice none 0 0):=(World.cell?_setCell_other _ _ _ _ (by simp)).trans (World.cell?_setCell_same' _ _ _ (by rw [k1];rfl))
  have r2 : ((w2.setCell ⟨w.heap.size,0,none⟩ (.slice none 0 0)).setCell ⟨w.heap.size + 1,0,none⟩ (.int .i64 er)).cell? ⟨w.heap.size + 1,0,none⟩ = some (.int .i64 er):=World.cell?_setCell_same' _ _ _ (by rw [World.cell?_setCell_other _ _ _ _ (by simp),k2];rfl)
  refine ⟨.tuple #[.slice none 0 0,.int .i64 er],?_,?_,?_⟩
  ·rw [results_cc rfl]
   simp [go_sem,r1,r2,Result.andThen]
  ·rw [HV.out]
   exact entOut_err _ _ _
  ·exact Below.setCell (p:=⟨w.heap.size + 1,0,none⟩) (Below.setCell (p:=⟨w.heap.size,0,none⟩) HCw.out (Nat.le_refl _) _) (Nat.le_succ _) _
end Go.Proofs.YtdcdabbepnahnaaGreatDoor
