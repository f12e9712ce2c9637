/- Small patterns of the call's own; the contracts of pattern.Meet. -/
import Derived.Laws.IdiomCopy
import Derived.Deep.Upon
import Derived.Maps.AppendAt
import Derived.IntWalk
import Derived.Lib.SliceRun
import Derived.Deep.RegionLaw
import Derived.Deep.RegionHeld3
import Derived.Test.YthopphabeddnfaaGreatDoorZStr
import Derived.Test.YthopphabeddnfaaGreatDoorZCopyP
import Derived.Test.YthopphabeddnfaaGreatDoorZRowX
import Derived.Test.YthopphabeddnfaaGreatDoorZMeetL
import Derived.Test.YthopphabeddnfaaGreatDoorZTextW
import Derived.Test.YthopphabeddnfaaGreatDoorZReduceL
namespace Go.Proofs.YthopphabeddnfaaGreatDoor
open Go Go.RowKit Sy

theorem PatsR.get {w : World} {A : Option Addr} {ps : List Pat} (h : PatsR w A ps) {k : Nat} (hk : k < ps.length) : ∃ b o p Ak ck,A = some ⟨b,o,none⟩ ∧ b < w.heap.size ∧ ps[k]? = some p ∧ w.cell? ⟨b,o + k * 2,none⟩ = some (.slice Ak p.parts.length ck) ∧ w.cell? ⟨b,o + k * 2 + 1,none⟩ = some (.bool p.rest) ∧ p.parts.length ≤ ck ∧ ck ≤ 9223372036854775807 ∧ StrsR w Ak p.parts:=by
 obtain ⟨b,o,hA,hb,hc⟩:=h.at_ (by omega)
 obtain ⟨Ak,ck,h1,h2,h3,h4,h5⟩:=hc k _ (List.getElem?_eq_getElem hk)
 exact ⟨b,o,ps[k],Ak,ck,hA,hb,List.getElem?_eq_getElem hk,h1,h2,h3,h4,h5⟩
end Go.Proofs.YthopphabeddnfaaGreatDoor
set_option linter.unusedVariables false
set_option linter.unusedSimpArgs false
namespace Go.Proofs.YthopphabeddnfaaGreatDoor
open Go Go.RowKit Sy
structure SmallN (w : World) (B : Nat) (x : NewP) : Prop where
 new : NewS w B x.A x.c x.p.parts
 few : x.p.parts.length ≤ 4194304
 each : ∀ l ∈ x.p.parts,l.length ≤ 4194304
theorem SmallN.a {w : World} {B : Nat} {x : NewP} (h : SmallN w B x) : PatA w x.A x.c x.p:=⟨h.new.u.toR h.few h.each,h.new.room,h.new.cap⟩
theorem SmallN.calm {w w' : World} {B : Nat} {x : NewP} (h : SmallN w B x) (hc : Calm w w') : SmallN w' B x:=⟨h.new.calm hc,h.few,h.each⟩
theorem SmallN.own {w w' : World} {B : Nat} {x : NewP} (h : SmallN w B x) {B0 n K : Nat} {v : Value} {T : TypeId} {xs : List Value} (hT : 9 ≠ T) (hown : w.ownsRow B0 T K v n xs) (hg : w.grownBy w' v.ownBlock) : SmallN w' B x:=⟨h.new.grown hT hown hg,h.few,h.each⟩
theorem SmallN.mono {w : World} {B B' : Nat} {x : NewP} (h : SmallN w B x) (hB : B' ≤ B) : SmallN w B' x:=⟨h.new.mono hB,h.few,h.each⟩
theorem OwnX.shape {α : Type} {enc : α → List Value} {K : Nat} {T : TypeId} {w0 w : World} {v : Value} {l : List α} (h : OwnX enc K T w0 w v l) : ∃ A n c,v = .slice A n c:=by
 rcases h.own.2 with ⟨rfl,_⟩ | ⟨g,cap,cur,rfl,_⟩
 ·exact ⟨_,_,_,rfl⟩
 ·exact ⟨_,_,_,rfl⟩
theorem SmallN.set {w : World} {B : Nat} {x : NewP} (h : SmallN w B x) {p : Addr} (u : Value) (hp : p.block < B) : SmallN (w.setCell p u) B x:=⟨h.new.set u hp,h.few,h.each⟩
set_option maxHeartbeats 4000000 in
theorem meet_far (p q : Pat) (A A' : Option Addr) (c c' : Nat) (w : World) (hp : PatA w A c p) (hq : PatA w A' c' q) (ep : patErr p = 0) (eq : patErr q = 0) (hcm : compat p q = false) :
  Calls Tryz.prog 36 #[.agg #[.slice A p.parts.length c,.bool p.rest],.agg #[.slice A' q.parts.length c',.bool q.rest]] w fun e w'=>MeetEnd p q w.heap.size e w' ∧ Calm w w':=by
 obtain ⟨n,hn⟩ : ∃ n,p.parts.length = n:=⟨_,rfl⟩
 obtain ⟨m,hm⟩ : ∃ m,q.parts.length = m:=⟨_,rfl⟩
 obtain ⟨re,hre⟩ : ∃ re,p.rest = re:=⟨_,rfl⟩
 obtain ⟨rf,hrf⟩ : ∃ rf,q.rest = rf:=⟨_,rfl⟩
 have hnl:=hp.r.len
 have hml:=hq.r.len
 obtain ⟨w1,hw1⟩ : ∃ w1,w1 = ((w.alloc (.cells #[.slice A n c,.bool re] 37)).alloc (.cells #[.slice A' m c',.bool rf] 37)).alloc (.cells #[.slice none 0 0,.bool false] 37):=⟨_,rfl⟩
 have hc1 : Calm w w1:=by rw [hw1];exact (((Calm.refl w).alloc _).alloc _).alloc _
 have hbox : Box3 w1 w.heap.size A n c re A' m c' rf:=by
  rw [hw1]
  exact ⟨by simp,by simp [go_sem],by simp [go_sem],by simp [go_sem],by simp [go_sem],by simp [go_sem],by simp [go_sem],fun o=>by simp [go_sem],fun o=>by simp [go_sem],fun o=>by simp [go_sem]⟩
 have KP : Hid (∀ W,Calm w1 W → Calls Tryz.prog 60 #[.agg #[.slice A n c,.bool re]] W fun e w'=>e = .returned (.int .i64 0) ∧ Calm W w'):=fun W hW=>checkA_c p n c re A W ((hp.calm hc1).calm hW) ep hn hre
 have KQ : Hid (∀ W,Calm w1 W → Calls Tryz.prog 60 #[.agg #[.slice A' m c',.bool rf]] W fun e w'=>e = .returned (.int .i64 0) ∧ Calm W w'):=fun W hW=>checkA_c q m c' rf A' W ((hq.calm hc1).calm hW) eq hm hrf
 rw [hn] at hnl
 rw [hm] at hml
 have KM : Hid (∀ W,Calls Tryz.prog 62 #[.int .i64 n,.bool re,.int .i64 m,.bool rf] W fun e w'=>e = .returned (.bool false) ∧ W = w'):=fun W=>compat_c n m re rf false W (by omega) (by omega) (by rw [← hn,← hm,← hre,← hrf];exact hcm)
 have hE:=Lib.hid (meetL_far hcm)
 rw [hn,hm,hre,hrf]
 have HW:=Lib.hid hw1
 have HC:=Lib.hid hc1
 have HB:=Lib.hid hbox
 clear hw1 hc1 hbox hn hm hre hrf hp hq ep eq hcm
 go_enter Tryz.func36,Tryz.ntmps36
 go_wp2_with fail
 rw [← HW.out]
 refine (KP.out w1 (Calm.refl _)).mono ?_
 rintro e w2 ⟨rfl,hc2⟩
 have b2:=HB.out.calm hc2
 have y0:=b2.y0
 have y1:=b2.y1
 clear b2
 go_wp2_with fail
 refine (KQ.out w2 hc2).mono ?_
 rintro e w3 ⟨rfl,hc3⟩
 have HB3:=Lib.hid (HB.out.calm (hc2.trans hc3))
 have x0:=HB3.out.x0
 have x1:=HB3.out.x1
 have y0:=HB3.out.y0
 have y1:=HB3.out.y1
 have z0:=HB3.out.z0
 have z1:=HB3.out.z1
 have f0:=HB3.out.fz 0
 have f1:=HB3.out.fz 1
 go_wp2_with fail
 refine (KM.out w3).mono ?_
 rintro e w4 ⟨rfl,rfl⟩
 have hc8 : Calm w ((w3.setCell ⟨w.heap.size + 2,0,none⟩ (.slice none 0 0)).setCell ⟨w.heap.size + 2,1,none⟩ (.bool false)):=Below.setCell (Below.setCell (HC.out.trans (hc2.trans hc3)) (by show w.heap.size ≤ w.heap.size + 2;omega) _) (by show w.heap.size ≤ w.heap.size + 2;omega) _
 clear hc2 hc3
 go_wp2
 refine bodyPost_ret (v:=.tuple #[.agg #[.slice none 0 0,.bool false],.bool false]) ?_ rfl ⟨.inr ⟨hE.out,rfl⟩,hc8⟩
 rw [results_cell_slot rfl]
 go_simp
theorem meet_c (p q : Pat) (A A' : Option Addr) (c c' : Nat) (w : World) (hp : PatA w A c p) (hq : PatA w A' c' q) (ep : patErr p = 0) (eq : patErr q = 0) :
  Calls Tryz.prog 36 #[.agg #[.slice A p.parts.length c,.bool p.rest],.agg #[.slice A' q.parts.length c',.bool q.rest]] w fun e w'=>MeetEnd p q w.heap.size e w' ∧ Calm w w':=by
 rcases hcm : compat p q with _ | _
 ·exact meet_far p q A A' c c' w hp hq ep eq hcm
 rcases Nat.lt_or_ge p.parts.length q.parts.length with h | h
 ·exact meet_short p q A A' c c' w hp hq ep eq h hcm
 ·exact meet_long p q A A' c c' w hp hq ep eq h hcm
theorem meet_yes (p q m : Pat) (A A' : Option Addr) (c c' : Nat) (w : World) (hp : PatA w A c p) (hq : PatA w A' c' q) (ep : patErr p = 0) (eq : patErr q = 0) (hm : meetP p q = some m) :
  Calls Tryz.prog 36 #[.agg #[.slice A p.parts.length c,.bool p.rest],.agg #[.slice A' q.parts.length c',.bool q.rest]] w fun e w'=>(∃ A2 c2,e = .returned (.tuple #[.agg #[.slice A2 m.parts.length c2,.bool m.rest],.bool true]) ∧ SmallN w' w.heap.size ⟨A2,c2,m⟩) ∧ Calm w w':=by
 rw [meetP,if_pos ⟨ep,eq⟩] at hm
 refine (meet_c p q A A' c c' w hp hq ep eq).mono fun e w' ⟨h1,h2⟩=>⟨?_,h2⟩
 rcases h1 with ⟨m',A2,c2,h3,h4,h5⟩ | ⟨h3,_⟩
 ·rw [hm] at h3
  obtain rfl : m = m':=Option.some.inj h3
  have hok:=(patErr_iff.1 (meetL_good ep eq hm)).2.2.1
  refine ⟨A2,c2,h4,h5,by show m.parts.length ≤ 4194304;omega,fun x hx=>?_⟩
  obtain ⟨rfl,_,_⟩:=meetL_some hm
  obtain ⟨j,hj,rfl⟩:=List.mem_map.1 hx
  have hjm:=List.mem_range.1 hj
  have hat : ∀ (r : Pat),(∀ l ∈ r.parts,l.length ≤ 4194304) → (pAt r j).length ≤ 4194304:=fun r hr=>by
   by_cases hjr : j < r.parts.length
   ·exact hr _ (List.mem_of_getElem? (pAt_get hjr))
   ·rw [pAt_out (by omega)]
    decide
  rcases mPart_or (pAt p j) (pAt q j) with e | e <;> rw [e]
  ·exact hat p hp.r.each
  ·exact hat q hq.r.each
 ·rw [hm] at h3
  cases h3
theorem meet_no (p q : Pat) (A A' : Option Addr) (c c' : Nat) (w : World) (hp : PatA w A c p) (hq : PatA w A' c' q) (ep : patErr p = 0) (eq : patErr q = 0) (hm : meetP p q = none) :
  Calls Tryz.prog 36 #[.agg #[.slice A p.parts.length c,.bool p.rest],.agg #[.slice A' q.parts.length c',.bool q.rest]] w fun e w'=>e = .returned (.tuple #[.agg #[.slice none 0 0,.bool false],.bool false]) ∧ Calm w w':=by
 rw [meetP,if_pos ⟨ep,eq⟩] at hm
 refine (meet_c p q A A' c c' w hp hq ep eq).mono fun e w' ⟨h1,h2⟩=>⟨?_,h2⟩
 rcases h1 with ⟨m',A2,c2,h3,h4,h5⟩ | ⟨_,h4⟩
 ·rw [hm] at h3
  cases h3
 ·exact h4
structure PatsN (w : World) (B : Nat) (A : Option Addr) (c : Nat) (ps : List Pat) : Prop where
 ex : ∃ l : List NewP,l.map (·.p) = ps ∧ ((A = none ∧ ps = []) ∨ ∃ g,A = some ⟨g,0,none⟩ ∧ B ≤ g ∧ RowX encP 2 37 w g 0 l) ∧ ∀ x ∈ l,SmallN w B x
 room : ps.length ≤ c
 cap : c ≤ 9223372036854775807
end Go.Proofs.YthopphabeddnfaaGreatDoor
