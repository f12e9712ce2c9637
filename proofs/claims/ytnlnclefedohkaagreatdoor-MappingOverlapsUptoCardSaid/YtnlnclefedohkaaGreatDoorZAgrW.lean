/- Walk: rule.Agree. -/
import Derived.Deep.LoopGhost
import Derived.Test.YtnlnclefedohkaaGreatDoorZFixW
import Derived.Test.YtnlnclefedohkaaGreatDoorZMatch
import Derived.Test.YtnlnclefedohkaaGreatDoorZMeetP
import Derived.Test.YtnlnclefedohkaaGreatDoorZChainW
set_option linter.unusedVariables false
set_option linter.unusedSimpArgs false
namespace Go.Proofs.YtnlnclefedohkaaGreatDoor
open Go Go.RowKit Sy
def DetEnd (s t : Str) (e : Ending) : Prop:=∃ x : Str,e = .returned (.tuple #[.string (bs x),.bool (detP s t).isSome]) ∧ ∀ c,detP s t = some c → x = c
theorem mtch_ne {part c : Str} (hs : isStar part = true) (hm : mtch part c = true) : cap1 part c ≠ []:=by
 unfold mtch at hm
 rw [if_pos hs,Bool.and_eq_true,decide_eq_true_eq] at hm
 unfold cap1
 intro h
 have h1:=congrArg List.length h
 rw [List.length_take] at h1
 simp only [List.length_nil] at h1
 omega
set_option maxRecDepth 20000 in
set_option maxHeartbeats 4000000 in
theorem determine_c (s t : Str) (w : World) (hs : s.length ≤ 16384) (ht : t.length ≤ 16384) (hne : s ≠ t) :
  Calls Tryz.prog 112 #[.string (bs s),.string (bs t)] w fun e w'=>DetEnd s t e ∧ w = w':=by
 rcases h1 : isStar s with _ | _ <;> rcases h2 : isStar t with _ | _
 ·have hv:=detP_lit h1 h2
  have k1:=hasStar_v s false w h1
  have km:=mpart_c t s w ht (by omega)
  have e2 : mtch t s = false:=by
   rw [mtch,h2]
   simp only [Bool.false_eq_true,if_false,beq_eq_false_iff_ne]
   exact fun e=>hne e.symm
  rw [e2] at km
  have HV:=Lib.hid hv
  clear hv h1 h2 e2 hne
  go_enter Tryz.func112,Tryz.ntmps112
  go_wp2_with (first | (go_at_call 114;refine k1.mono ?_;rintro e w' ⟨rfl,rfl⟩) | (go_at_call 116;refine km.mono ?_;rintro e w' ⟨rfl,rfl⟩))
  go_ret2
  exact ⟨⟨_,by rw [HV.out];rfl,fun c hc=>by rw [HV.out] at hc;cases hc⟩,rfl⟩
 ·have hv:=detP_one h1 h2
  have k1:=hasStar_v s false w h1
  have km:=mpart_c t s w ht (by omega)
  rcases hm : mtch t s with _ | _
  ·rw [hm] at hv km
   simp only [Bool.false_eq_true,if_false] at hv
   have HV:=Lib.hid hv
   clear hv h1 h2 hm hne
   go_enter Tryz.func112,Tryz.ntmps112
   go_wp2_with (first | (go_at_call 114;refine k1.mono ?_;rintro e w' ⟨rfl,rfl⟩) | (go_at_call 116;refine km.mono ?_;rintro e w' ⟨rfl,rfl⟩))
   go_ret2
   exact ⟨⟨_,by rw [HV.out];rfl,fun c hc=>by rw [HV.out] at hc;cases hc⟩,rfl⟩
  ·rw [capt_cap1 h2 hm,hm] at km
   rw [hm] at hv
   simp only [if_true] at hv
   have hcn:=mtch_ne h2 hm
   obtain ⟨c,hc⟩ : ∃ c,cap1 t s = c:=⟨_,rfl⟩
   rw [hc] at km hv hcn
   have HV:=Lib.hid hv
   obtain ⟨a,l,rfl⟩:=List.exists_cons_of_ne_nil hcn
   clear hv h1 h2 hm hne hc hcn
   go_enter Tryz.func112,Tryz.ntmps112
   go_wp2_with (first | (go_at_call 114;refine k1.mono ?_;rintro e w' ⟨rfl,rfl⟩) | (go_at_call 116;refine km.mono ?_;rintro e w' ⟨rfl,rfl⟩))
   go_ret2
   exact ⟨⟨a :: l,by rw [HV.out];rfl,fun c hc=>by rw [HV.out] at hc;exact Option.some.inj hc⟩,rfl⟩
 ·have hv:=(detP_swap s t).trans (detP_one h2 h1)
  have k1:=hasStar_v s true w h1
  have k2:=hasStar_v t false w h2
  have km:=mpart_c s t w hs (by omega)
  rcases hm : mtch s t with _ | _
  ·rw [hm] at hv km
   simp only [Bool.false_eq_true,if_false] at hv
   have HV:=Lib.hid hv
   clear hv h1 h2 hm hne
   go_enter Tryz.func112,Tryz.ntmps112
   go_wp2_with (first | (go_at_call 114;first | (refine k1.mono ?_;rintro e w' ⟨rfl,rfl⟩) | (refine k2.mono ?_;rintro e w' ⟨rfl,rfl⟩)) | (go_at_call 116;refine km.mono ?_;rintro e w' ⟨rfl,rfl⟩))
   go_ret2
   exact ⟨⟨_,by rw [HV.out];rfl,fun c hc=>by rw [HV.out] at hc;cases hc⟩,rfl⟩
  ·rw [capt_cap1 h1 hm,hm] at km
   rw [hm] at hv
   simp only [if_true] at hv
   have hcn:=mtch_ne h1 hm
   obtain ⟨c,hc⟩ : ∃ c,cap1 s t = c:=⟨_,rfl⟩
   rw [hc] at km hv hcn
   have HV:=Lib.hid hv
   obtain ⟨a,l,rfl⟩:=List.exists_cons_of_ne_nil hcn
   clear hv h1 h2 hm hne hc hcn
   go_enter Tryz.func112,Tryz.ntmps112
   go_wp2_with (first | (go_at_call 114;first | (refine k1.mono ?_;rintro e w' ⟨rfl,rfl⟩) | (refine k2.mono ?_;rintro e w' ⟨rfl,rfl⟩)) | (go_at_call 116;refine km.mono ?_;rintro e w' ⟨rfl,rfl⟩))
   go_ret2
   exact ⟨⟨a :: l,by rw [HV.out];rfl,fun c hc=>by rw [HV.out] at hc;exact Option.some.inj hc⟩,rfl⟩
 ·have hv:=detP_both h1 h2
  have k1:=hasStar_v s true w h1
  have k2:=hasStar_v t true w h2
  have HV:=Lib.hid hv
  clear hv h1 h2 hne
  go_enter Tryz.func112,Tryz.ntmps112
  go_wp2_with (go_at_call 114;first | (refine k1.mono ?_;rintro e w' ⟨rfl,rfl⟩) | (refine k2.mono ?_;rintro e w' ⟨rfl,rfl⟩))
  go_ret2
  exact ⟨⟨[],by rw [HV.out];rfl,fun c hc=>by rw [HV.out] at hc;cases hc⟩,rfl⟩
end Go.Proofs.YtnlnclefedohkaaGreatDoor
set_option linter.unusedVariables false
set_option linter.unusedSimpArgs false
namespace Go.Proofs.YtnlnclefedohkaaGreatDoor
open Go Go.RowKit Sy
def OldNew (wr : World) (B : Nat) (A0 : Option Addr) (c0 : Nat) (p0 : Pat) (A : Option Addr) (c : Nat) (p : Pat) : Prop:=(A = A0 ∧ c = c0 ∧ p = p0) ∨ SmallN wr B ⟨A,c,p⟩
theorem smallN_set {w : World} {B : Nat} {x : NewP} (h : SmallN w B x) {p : Addr} (u : Value) (hp : p.block < B) : SmallN (w.setCell p u) B x:=⟨h.new.set u hp,h.few,h.each⟩
theorem smallN_mono {w : World} {B B' : Nat} {x : NewP} (h : SmallN w B x) (hB : B' ≤ B) : SmallN w B' x:=⟨h.new.mono hB,h.few,h.each⟩
def EqEnd (o : Option Pat) (n B : Nat) (A0 : Option Addr) (c0 : Nat) (p0 : Pat) (e : Ending) (w' : World) : Prop:=match o with
 |none=>e = .returned (.tuple #[.agg #[.slice none 0 0,.bool false],.bool false])
 |some p=>∃ A2 c2,e = .returned (.tuple #[.agg #[.slice A2 n c2,.bool p.rest],.bool true]) ∧ OldNew w' B A0 c0 p0 A2 c2 p
structure Box4 (w : World) (B : Nat) (a0 a1 b0 b1 c0 c1 : Value) : Prop where
 x : TwoB w B a0 a1
 y : TwoB w (B + 1) b0 b1
 z : TwoB w (B + 1 + 1) c0 c1
 r : TwoB w (B + 1 + 1 + 1) (.slice none 0 0) (.bool false)
theorem Box4.calm {w w' : World} {B : Nat} {a0 a1 b0 b1 c0 c1 : Value} (h : Box4 w B a0 a1 b0 b1 c0 c1) (hc : Calm w w') : Box4 w' B a0 a1 b0 b1 c0 c1:=⟨h.x.calm hc,h.y.calm hc,h.z.calm hc,h.r.calm hc⟩
abbrev six (w : World) (B : Nat) (a0 a1 b0 b1 c0 c1 : Value) : World:=(((((w.setCell ⟨B,0,none⟩ a0).setCell ⟨B,1,none⟩ a1).setCell ⟨B + 1,0,none⟩ b0).setCell ⟨B + 1,1,none⟩ b1).setCell ⟨B + 1 + 1,0,none⟩ c0).setCell ⟨B + 1 + 1,1,none⟩ c1
theorem Box4.six {w : World} {B : Nat} {a0 a1 b0 b1 c0 c1 : Value} (h : Box4 w B a0 a1 b0 b1 c0 c1) (u0 u1 v0 v1 t0 t1 : Value) : Box4 (Go.Proofs.YtnlnclefedohkaaGreatDoor.six w B u0 u1 v0 v1 t0 t1) B u0 u1 v0 v1 t0 t1:=
 ⟨two_other (two_other (two_other (two_other (two_put h.x u0 u1) (by omega) _) (by omega) _) (by omega) _) (by omega) _,
  two_other (two_other (two_put (two_other (two_other h.y (by omega) _) (by omega) _) v0 v1) (by omega) _) (by omega) _,
  two_put (two_other (two_other (two_other (two_other h.z (by omega) _) (by omega) _) (by omega) _) (by omega) _) t0 t1,
  two_other (two_other (two_other (two_other (two_other (two_other h.r (by omega) _) (by omega) _) (by omega) _) (by omega) _) (by omega) _) (by omega) _⟩
theorem calm_six {w0 w : World} {B : Nat} (h : Calm w0 w) (hb : w0.heap.size ≤ B) (u0 u1 v0 v1 t0 t1 : Value) : Calm w0 (six w B u0 u1 v0 v1 t0 t1):=
 Below.setCell (p:=⟨B + 1 + 1,1,none⟩) (Below.setCell (p:=⟨B + 1 + 1,0,none⟩) (Below.setCell (p:=⟨B + 1,1,none⟩) (Below.setCell (p:=⟨B + 1,0,none⟩) (Below.setCell (p:=⟨B,1,none⟩) (Below.setCell (p:=⟨B,0,none⟩) h hb _) hb _) (Nat.le_succ_of_le hb) _) (Nat.le_succ_of_le hb) _) (Nat.le_succ_of_le (Nat.le_succ_of_le hb)) _) (Nat.le_succ_of_le (Nat.le_succ_of_le hb)) _
theorem smallN_six {w : World} {B B' : Nat} {x : NewP} (h : SmallN w B' x) (hb : B + 1 + 1 < B') (u0 u1 v0 v1 t0 t1 : Value) : SmallN (six w B u0 u1 v0 v1 t0 t1) B' x:=
 smallN_set (smallN_set (smallN_set (smallN_set (smallN_set (smallN_set h u0 (by show B < B';omega)) u1 (by show B < B';omega)) v0 (by show B + 1 < B';omega)) v1 (by show B + 1 < B';omega)) t0 (by show B + 1 + 1 < B';omega)) t1 (by show B + 1 + 1 < B';omega)
structure EqSt (w wr : World) (B nl n N : Nat) (A0 : Option Addr) (c0 : Nat) (M X Y : Pat) (re rx ry : Bool) (g : Nat) (m x y : Pat) (Am Ax Ay : Option Addr) (cm cx cy : Nat) : Prop where
 calm : Calm w wr
 box : Box4 wr B (.slice Am nl cm) (.bool re) (.slice Ax n cx) (.bool rx) (.slice Ay n cy) (.bool ry)
 same : eqP N M X Y = eqP g m x y
 few : starN m < g
 room : g ≤ 13
 tx : Sy.Twin m x
 ty : Sy.Twin m y
 old : PatA w A0 c0 M
 hm : OldNew wr (B + 1 + 1 + 1 + 1) A0 c0 M Am cm m
 hx : PatA wr Ax cx x
 hy : PatA wr Ay cy y
 nm : m.parts.length = nl ∧ m.rest = re
 nx : x.parts.length = n ∧ x.rest = rx
 ny : y.parts.length = n ∧ y.rest = ry
 sm : SzP (600 * (14 - g)) 600 m
 sx : SzP (600 * (14 - g)) 600 x
 sy : SzP (600 * (14 - g)) 600 y
theorem OldNew.a {w wr : World} {B : Nat} {A0 A : Option Addr} {c0 c : Nat} {p0 p : Pat} (h : OldNew wr B A0 c0 p0 A c p) (h0 : PatA w A0 c0 p0) (hc : Calm w wr) : PatA wr A c p:=by
 rcases h with ⟨rfl,rfl,rfl⟩ | h
 ·exact h0.calm hc
 ·exact h.a
theorem fixEnd_small {w' : World} {B : Nat} {A : Option Addr} {c k : Nat} {p : Pat} {d : Str} (h : NewS w' B A c (fixR p.parts k d)) (hl : p.parts.length ≤ 16384) (hs : ∀ s ∈ fixR p.parts k d,s.length ≤ 16384) : SmallN w' B ⟨A,c,fixP p k d⟩:=
 ⟨h,by show (fixR p.parts k d).length ≤ 16384;rw [fixR_len];exact hl,hs⟩
theorem EqSt.next {w wr w7 : World} {B nl n N : Nat} {A0 : Option Addr} {c0 : Nat} {M X Y : Pat} {re rx ry : Bool} {g : Nat} {m x y : Pat} {Am Ax Ay : Option Addr} {cm cx cy : Nat} (h : EqSt w wr B nl n N A0 c0 M X Y re rx ry (g + 1) m x y Am Ax Ay cm cx cy)
  (hwB : w.heap.size ≤ B) {k : Nat} {s t d : Str} (hd : diffR x.parts y.parts 0 = some (k,s,t)) (hdet : detP s t = some d) {A5 A6 A7 : Option Addr} {c5 c6 c7 b5 b6 b7 : Nat} (hc : Calm wr w7)
  (h5 : NewS w7 b5 A5 c5 (fixR m.parts k d)) (h6 : NewS w7 b6 A6 c6 (fixR x.parts k d)) (h7 : NewS w7 b7 A7 c7 (fixR y.parts k d)) (e5 : wr.heap.size ≤ b5) (e6 : wr.heap.size ≤ b6) (e7 : wr.heap.size ≤ b7) :
  EqSt w (six w7 B (.slice A5 nl c5) (.bool re) (.slice A6 n c6) (.bool rx) (.slice A7 n c7) (.bool ry)) B nl n N A0 c0 M X Y re rx ry g (fixP m k d) (fixP x k d) (fixP y k d) A5 A6 A7 c5 c6 c7:=by
 have hlen : x.parts.length = y.parts.length:=h.nx.1.trans h.ny.1.symm
 obtain ⟨hcc,⟨tx,ty⟩,hst⟩:=eq_step h.tx h.ty hlen h.few hd hdet
 obtain ⟨hsx,hty,_⟩:=diffR_mem hd
 have hroom:=h.room
 have hdl : d.length ≤ 600 * (14 - (g + 1)):=detP_len hdet (h.sx.each s hsx) (h.sy.each t hty)
 have hL : 600 * (14 - (g + 1)) + 600 = 600 * (14 - g):=by omega
 have sm:=hL ▸ h.sm.fix k hcc hdl
 have sx:=hL ▸ h.sx.fix k hcc hdl
 have sy:=hL ▸ h.sy.fix k hcc hdl
 have hsz:=h.box.r.lt
 have hg1 : 1 ≤ g:=by omega
 have l1 : m.parts.length ≤ 16384:=by have:=(patErr_iff.1 h.tx.lp).2.2.1;omega
 have l2 : x.parts.length ≤ 16384:=by have:=(patErr_iff.1 h.tx.rp).2.2.1;omega
 have l3 : y.parts.length ≤ 16384:=by have:=(patErr_iff.1 h.ty.rp).2.2.1;omega
 have s5:=smallN_six (smallN_mono (fixEnd_small h5 l1 (fun z hz=>by have:=sm.each z hz;omega)) (B':=B + 1 + 1 + 1 + 1) (by omega)) (B:=B) (by omega) (.slice A5 nl c5) (.bool re) (.slice A6 n c6) (.bool rx) (.slice A7 n c7) (.bool ry)
 have s6:=smallN_six (smallN_mono (fixEnd_small h6 l2 (fun z hz=>by have:=sx.each z hz;omega)) (B':=B + 1 + 1 + 1 + 1) (by omega)) (B:=B) (by omega) (.slice A5 nl c5) (.bool re) (.slice A6 n c6) (.bool rx) (.slice A7 n c7) (.bool ry)
 have s7:=smallN_six (smallN_mono (fixEnd_small h7 l3 (fun z hz=>by have:=sy.each z hz;omega)) (B':=B + 1 + 1 + 1 + 1) (by omega)) (B:=B) (by omega) (.slice A5 nl c5) (.bool re) (.slice A6 n c6) (.bool rx) (.slice A7 n c7) (.bool ry)
 exact ⟨calm_six (h.calm.trans hc) hwB _ _ _ _ _ _,(h.box.calm hc).six _ _ _ _ _ _,by rw [h.same,eqP_go hd hdet],hst,by omega,tx,ty,h.old,.inr s5,s6.a,s7.a,
  ⟨(fixR_len _ _ _).trans h.nm.1,h.nm.2⟩,⟨(fixR_len _ _ _).trans h.nx.1,h.nx.2⟩,⟨(fixR_len _ _ _).trans h.ny.1,h.ny.2⟩,sm,sx,sy⟩
theorem OldNew.set {wr : World} {B : Nat} {A0 A : Option Addr} {c0 c : Nat} {p0 p : Pat} (h : OldNew wr (B + 1 + 1 + 1 + 1) A0 c0 p0 A c p) (u0 u1 : Value) : OldNew ((wr.setCell ⟨B + 1 + 1 + 1,0,none⟩ u0).setCell ⟨B + 1 + 1 + 1,1,none⟩ u1) B A0 c0 p0 A c p:=by
 rcases h with h | h
 ·exact .inl h
 ·exact .inr (smallN_mono (smallN_set (smallN_set h u0 (by show B + 1 + 1 + 1 < _;omega)) u1 (by show B + 1 + 1 + 1 < _;omega)) (by omega))
set_option maxRecDepth 40000 in
set_option maxHeartbeats 16000000 in
theorem equalize_c (M X Y : Pat) (N nl n m : Nat) (A A1 A2 : Option Addr) (c c1 c2 : Nat) (re rx ry : Bool) (w : World) (hM : PatA w A c M) (hX : PatA w A1 c1 X) (hY : PatA w A2 c2 Y) (tx : Sy.Twin M X) (ty : Sy.Twin M Y) (hN : starN M < N) (hN13 : N ≤ 13)
  (sm : SzP 600 600 M) (sx : SzP 600 600 X) (sy : SzP 600 600 Y) (nM : M.parts.length = nl ∧ M.rest = re) (nX : X.parts.length = n ∧ X.rest = rx) (nY : Y.parts.length = m ∧ Y.rest = ry) :
  Calls Tryz.prog 79 #[.agg #[.slice A nl c,.bool re],.agg #[.slice A1 n c1,.bool rx],.agg #[.slice A2 m c2,.bool ry]] w fun e w'=>EqEnd (eqzP N M X Y) nl w.heap.size A c M e w' ∧ Calm w w':=by
 obtain ⟨B,hB⟩ : ∃ B,w.heap.size = B:=⟨_,rfl⟩
 obtain ⟨w1,hw1⟩ : ∃ w1,w1 = (((w.alloc (.cells #[.slice A nl c,.bool re] 40)).alloc (.cells #[.slice A1 n c1,.bool rx] 40)).alloc (.cells #[.slice A2 m c2,.bool ry] 40)).alloc (.cells #[.slice none 0 0,.bool false] 40):=⟨_,rfl⟩
 have hc1 : Calm w w1:=by rw [hw1];exact ((((Calm.refl w).alloc _).alloc _).alloc _).alloc _
 have hbx : Box4 w1 B (.slice A nl c) (.bool re) (.slice A1 n c1) (.bool rx) (.slice A2 m c2) (.bool ry):=by
  rw [hw1,← hB]
  exact ⟨⟨by simp;omega,by simp [go_sem],by simp [go_sem],fun o=>by simp [go_sem]⟩,⟨by simp,by simp [go_sem],by simp [go_sem],fun o=>by simp [go_sem]⟩,⟨by simp,by simp [go_sem],by simp [go_sem],fun o=>by simp [go_sem]⟩,⟨by simp,by simp [go_sem],by simp [go_sem],fun o=>by simp [go_sem]⟩⟩
 have hn12 : n ≤ 12 ∧ nl ≤ 12 ∧ m ≤ 12:=⟨by have:=(patErr_iff.1 tx.rp).2.2.1;omega,by have:=(patErr_iff.1 tx.lp).2.2.1;omega,by have:=(patErr_iff.1 ty.rp).2.2.1;omega⟩
 have HW:=Lib.hid hw1
 have HBs:=Lib.hid hB
 have HC:=Lib.hid hc1
 have HBx:=Lib.hid hbx
 have x0:=hbx.x.c0
 have y0:=hbx.y.c0
 have z0:=hbx.z.c0
 have r0:=hbx.r.c0
 have r1:=hbx.r.c1
 have g0:=hbx.r.fz 0
 have g1:=hbx.r.fz 1
 by_cases hlen : n = m
 ·subst hlen
  have hSt : EqSt w w1 B nl n N A c M X Y re rx ry N M X Y A A1 A2 c c1 c2:=by
   have hs : 600 ≤ 600 * (14 - N):=by omega
   exact ⟨hc1,hbx,rfl,hN,hN13,tx,ty,hM,.inl ⟨rfl,rfl,rfl⟩,hX.calm hc1,hY.calm hc1,nM,nX,nY,⟨fun s h=>Nat.le_trans (sm.each s h) hs,sm.star⟩,⟨fun s h=>Nat.le_trans (sx.each s h) hs,sx.star⟩,⟨fun s h=>Nat.le_trans (sy.each s h) hs,sy.star⟩⟩
  have HSt:=Lib.hid hSt
  have HEz : Hid (eqzP N M X Y = eqP N M X Y):=by
   show _ = _
   rw [eqzP,if_neg (by rw [nX.1,nY.1];simp)]
  clear hM hX hY tx ty hN hN13 sm sx sy nM nX nY hw1 hB hc1 hbx hSt r0 r1 g0 g1
  go_enter Tryz.func79,Tryz.ntmps79
  go_wp2_with fail
  rw [← HW.out,HBs.out]
  go_step3
  go_wp2_with fail
  go_step3
  go_wp2_with fail
  go_loopg [] N (fun g wr=>∃ (p q r : Pat) (Am Ax Ay : Option Addr) (cm cx cy : Nat),Hid (EqSt w wr B nl n N A c M X Y re rx ry g p q r Am Ax Ay cm cx cy))
  case atStart=>exact ⟨M,X,Y,A,A1,A2,c,c1,c2,HSt.out⟩
  case round=>
   obtain ⟨p,q,r,Am,Ax,Ay,cm,cx,cy,HR⟩:=hrel
   obtain ⟨wq,rfl⟩ : ∃ wq,wq = wr:=⟨_,rfl⟩
   obtain ⟨g,rfl⟩ : ∃ g,gk = g + 1:=⟨gk - 1,by have:=HR.out.few;omega⟩
   have x0:=HR.out.box.x.c0
   have x1:=HR.out.box.x.c1
   have y0:=HR.out.box.y.c0
   have y1:=HR.out.box.y.c1
   have z0:=HR.out.box.z.c0
   have z1:=HR.out.box.z.c1
   have r0:=HR.out.box.r.c0
   have r1:=HR.out.box.r.c1
   have f0:=HR.out.box.r.fz 0
   have f1:=HR.out.box.r.fz 1
   go_wp2_with fail
   go_loopg [8,25] n (fun g2 s8 s25 wy=>∃ (i st : Nat),i + g2 = n ∧ st ≤ i ∧ s25 = .int .i64 i ∧ s8 = .int .i64 st ∧ Hid (DifAt q.parts r.parts i st) ∧ wy = wq)
   case atStart=>exact ⟨0,0,by omega,Nat.le_refl _,rfl,rfl,DifAt.start _ _,rfl⟩
   case round=>
    obtain ⟨i,st,hig,hst,rfl,rfl,HD,hwy⟩:=hrel
    subst hwy
    cases gk with
    |zero=>
     have hz : ¬ ((i : Int) < (n : Int)):=by omega
     have HEq : Hid (eqzP N M X Y = some p):=by
      show _ = _
      rw [HEz.out,HR.out.same]
      exact eqP_same (HD.out.done (by rw [HR.out.nx.1];omega))
     go_wp2_with fail
     try rw [Exit.noGoto_ret]
     have hb4:=two_put HR.out.box.r (.slice Am nl cm) (.bool re)
     have q0:=hb4.c0
     have q1:=hb4.c1
     refine bodyPost_ret (v:=.tuple #[.agg #[.slice Am nl cm,.bool re],.bool true]) ?_ rfl ⟨?_,?_⟩
     ·rw [results_cell_slot rfl]
      go_simp
     ·rw [HEq.out,HBs.out]
      exact ⟨Am,cm,by rw [HR.out.nm.2],HR.out.hm.set _ _⟩
     ·exact Below.setCell (p:=⟨B + 1 + 1 + 1,1,none⟩) (Below.setCell (p:=⟨B + 1 + 1 + 1,0,none⟩) HR.out.calm (by have:=HBs.out;show w.heap.size ≤ B + 1 + 1 + 1;omega) _) (by have:=HBs.out;show w.heap.size ≤ B + 1 + 1 + 1;omega) _
    |succ g2=>
     have hz : (i : Int) < (n : Int):=by omega
     obtain ⟨bx,ox,s,rfl,hbx,hs,hsl,cx0⟩:=HR.out.hx.r.get (k:=i) (by rw [HR.out.nx.1];omega)
     obtain ⟨b9,o9,t,rfl,hby,ht,htl,cy0⟩:=HR.out.hy.r.get (k:=i) (by rw [HR.out.ny.1];omega)
     have HSs:=Lib.hid hs
     have HTs:=Lib.hid ht
     clear hs ht
     by_cases hst' : s = t
     ·subst hst'
      have hnx:=HD.out.go HSs.out HTs.out
      rcases hsx : isStar s with _ | _
      ·rw [hsx] at hnx
       have k1:=hasStar_v s false wr hsx
       have HN : Hid (DifAt q.parts r.parts (i + 1) st):=hnx
       clear hnx hsx r0 r1 f0 f1
       go_wp2_with (go_at_call 114;refine k1.mono ?_;rintro e w' ⟨rfl,rfl⟩)
       go_roundg g2
       case measure=>omega
       case rel=>exact ⟨i + 1,st,by omega,by omega,by go_num,rfl,HN.out,rfl⟩
      ·rw [hsx] at hnx
       have k1:=hasStar_v s true wr hsx
       have HN : Hid (DifAt q.parts r.parts (i + 1) (st + 1)):=hnx
       clear hnx hsx r0 r1 f0 f1
       go_wp2_with (go_at_call 114;refine k1.mono ?_;rintro e w' ⟨rfl,rfl⟩)
       go_roundg g2
       case measure=>omega
       case rel=>exact ⟨i + 1,st + 1,by omega,by omega,by go_num,by go_num,HN.out,rfl⟩
     ·have hneL : (s == t) = false:=by simpa using hst'
      have kd:=determine_c s t wr hsl htl hst'
      have HDf:=Lib.hid (HD.out.hit HSs.out HTs.out hst')
      rcases hdet : detP s t with _ | d
      ·have HEq : Hid (eqzP N M X Y = none):=by
        show _ = _
        rw [HEz.out,HR.out.same]
        exact eqP_no HDf.out hdet
       have kd1 : Calls Tryz.prog 112 #[.string (bs s),.string (bs t)] wr fun e w'=>(∃ x : Str,e = .returned (.tuple #[.string (bs x),.bool false])) ∧ wr = w':=kd.mono fun e w' ⟨⟨x,h1,_⟩,h2⟩=>⟨⟨x,by rw [h1,hdet];rfl⟩,h2⟩
       clear kd hdet hst'
       go_wp2_with (go_at_call 112;refine kd1.mono ?_;rintro e w' ⟨⟨x,rfl⟩,rfl⟩)
       try rw [Exit.noGoto_ret]
       have hb4:=two_put HR.out.box.r (.slice none 0 0) (.bool false)
       have q0:=hb4.c0
       have q1:=hb4.c1
       refine bodyPost_ret (v:=.tuple #[.agg #[.slice none 0 0,.bool false],.bool false]) ?_ rfl ⟨?_,?_⟩
       ·rw [results_cell_slot rfl]
        go_simp
       ·rw [HEq.out]
        rfl
       ·exact Below.setCell (p:=⟨B + 1 + 1 + 1,1,none⟩) (Below.setCell (p:=⟨B + 1 + 1 + 1,0,none⟩) HR.out.calm (by have:=HBs.out;show w.heap.size ≤ B + 1 + 1 + 1;omega) _) (by have:=HBs.out;show w.heap.size ≤ B + 1 + 1 + 1;omega) _
      ·have kd1 : Calls Tryz.prog 112 #[.string (bs s),.string (bs t)] wr fun e w'=>e = .returned (.tuple #[.string (bs d),.bool true]) ∧ wr = w':=kd.mono fun e w' ⟨⟨x,h1,h3⟩,h2⟩=>⟨by rw [h1,h3 d hdet,hdet];rfl,h2⟩
       have hdl : d.length ≤ 16384:=detP_len hdet hsl htl
       have hst6 : st ≤ 16384:=by omega
       have HDet:=Lib.hid hdet
       have KF1 : Hid (∀ W,Calm wr W → Calls Tryz.prog 113 #[.agg #[.slice Am nl cm,.bool re],.int .i64 st,.string (bs d)] W fun e w'=>FixEnd (fixR p.parts st d) nl re W.heap.size e w' ∧ Calm W w'):=fun W hW=>fix_c p st d Am nl cm re W ((HR.out.hm.a HR.out.old HR.out.calm).calm hW).r HR.out.nm.1 HR.out.nm.2 hdl hst6
       have KF2 : Hid (∀ W,Calm wr W → Calls Tryz.prog 113 #[.agg #[.slice (some ⟨bx,ox,none⟩) n cx,.bool rx],.int .i64 st,.string (bs d)] W fun e w'=>FixEnd (fixR q.parts st d) n rx W.heap.size e w' ∧ Calm W w'):=fun W hW=>fix_c q st d (some ⟨bx,ox,none⟩) n cx rx W (HR.out.hx.calm hW).r HR.out.nx.1 HR.out.nx.2 hdl hst6
       have KF3 : Hid (∀ W,Calm wr W → Calls Tryz.prog 113 #[.agg #[.slice (some ⟨b9,o9,none⟩) n cy,.bool ry],.int .i64 st,.string (bs d)] W fun e w'=>FixEnd (fixR r.parts st d) n ry W.heap.size e w' ∧ Calm W w'):=fun W hW=>fix_c r st d (some ⟨b9,o9,none⟩) n cy ry W (HR.out.hy.calm hW).r HR.out.ny.1 HR.out.ny.2 hdl hst6
       clear kd hdet hst' hdl hst6 r0 r1 f0 f1 HD
       go_wp2_with (go_at_call 112;refine kd1.mono ?_;rintro e w' ⟨rfl,rfl⟩)
       clear kd1
       have hD0 : Calm wr wr.drew:=Below.drew (Calm.refl _)
       have by8:=HR.out.box.calm hD0
       have x0:=by8.x.c0
       have x1:=by8.x.c1
       have y0:=by8.y.c0
       have y1:=by8.y.c1
       have z0:=by8.z.c0
       have z1:=by8.z.c1
       clear by8
       go_region_with (first
         |(go_at_call 113;(with_reducible refine (KF1.out _ hD0).mono ?_);rintro e w5 ⟨⟨A5,c5,rfl,hn5⟩,hc5⟩;have hcx : Calm wr w5:=Calm.trans hD0 hc5;have by9:=HR.out.box.calm hcx;have y0:=by9.y.c0;have y1:=by9.y.c1;have z0:=by9.z.c0;have z1:=by9.z.c1;clear by9)
         |(go_at_call 113;(with_reducible refine (KF2.out _ hcx).mono ?_);rintro e w6 ⟨⟨A6,c6,rfl,hn6⟩,hc6⟩;have hcy : Calm wr w6:=Calm.trans hcx hc6;have by9:=HR.out.box.calm hcy;have y0:=by9.y.c0;have y1:=by9.y.c1;have z0:=by9.z.c0;have z1:=by9.z.c1;clear by9)
         |(go_at_call 113;(with_reducible refine (KF3.out _ hcy).mono ?_);rintro e w7 ⟨⟨A7,c7,rfl,hn7⟩,hc7⟩;have hcz : Calm wr w7:=Calm.trans hcy hc7;have by9:=HR.out.box.calm hcz;have y0:=by9.y.c0;have y1:=by9.y.c1;have z0:=by9.z.c0;have z1:=by9.z.c1;have x0:=by9.x.c0;have x1:=by9.x.c1;have f0:=by9.x.fz 0;have f1:=by9.x.fz 1;have f2:=by9.y.fz 0;have f3:=by9.y.fz 1;have f4:=by9.z.fz 0;have f5:=by9.z.fz 1;clear by9))
       all_goals
        have HNx:=Lib.hid (HR.out.next (by have:=HBs.out;omega) HDf.out HDet.out hcz (hn5.calm (hc6.trans hc7)) (hn6.calm hc7) hn7 (Nat.le_refl _) hcx.size hcy.size)
        go_wp2_with fail
        go_roundg g
        case measure=>omega
        case rel=>exact ⟨_,_,_,A5,A6,A7,c5,c6,c7,HNx.out⟩
 ·have HNo : Hid (eqzP N M X Y = none):=by
   show _ = _
   rw [eqzP,if_pos (by rw [nX.1,nY.1];exact hlen)]
  have hne : ((n : Int) == (m : Int)) = false:=by
   rw [beq_eq_false_iff_ne]
   omega
  clear hM hX hY tx ty hN hN13 sm sx sy nM nX nY hw1 hB hc1 hbx
  go_enter Tryz.func79,Tryz.ntmps79
  go_wp2_with fail
  rw [← HW.out,HBs.out]
  go_step3
  go_wp2_with fail
  try rw [Exit.noGoto_ret]
  have hb4:=two_put HBx.out.r (.slice none 0 0) (.bool false)
  have q0:=hb4.c0
  have q1:=hb4.c1
  refine bodyPost_ret (v:=.tuple #[.agg #[.slice none 0 0,.bool false],.bool false]) ?_ rfl ⟨?_,?_⟩
  ·rw [results_cell_slot rfl]
   go_simp
  ·rw [HNo.out]
   rfl
  ·exact Below.setCell (p:=⟨B + 1 + 1 + 1,1,none⟩) (Below.setCell (p:=⟨B + 1 + 1 + 1,0,none⟩) HC.out (by have:=HBs.out;show w.heap.size ≤ B + 1 + 1 + 1;omega) _) (by have:=HBs.out;show w.heap.size ≤ B + 1 + 1 + 1;omega) _
end Go.Proofs.YtnlnclefedohkaaGreatDoor
set_option linter.unusedVariables false
set_option linter.unusedSimpArgs false
namespace Go.Proofs.YtnlnclefedohkaaGreatDoor
open Go Go.RowKit Sy
def AgEnd (o : Option Pat × Int) (B : Nat) (e : Ending) (w' : World) : Prop:=
 (o.1 = none ∧ e = .returned (.tuple #[.agg #[.slice none 0 0,.bool false],.bool false,.int .i64 o.2])) ∨
 ∃ p A c,o = (some p,0) ∧ e = .returned (.tuple #[.agg #[.slice A p.parts.length c,.bool p.rest],.bool true,.int .i64 0]) ∧ SmallN w' B ⟨A,c,p⟩
theorem eqP_len : ∀ (n : Nat) {m x y p : Pat},eqP n m x y = some p → p.parts.length = m.parts.length
 |0,_,_,_,_,h=>by cases h
 |n + 1,m,x,y,p,h=>by
  unfold eqP at h
  split at h
  ·obtain rfl:=Option.some.inj h
   rfl
  ·split at h
   ·cases h
   ·rw [eqP_len n h]
    exact fixR_len _ _ _
theorem eqzP_len {n : Nat} {m x y p : Pat} (h : eqzP n m x y = some p) : p.parts.length = m.parts.length:=by
 unfold eqzP at h
 split at h
 ·cases h
 ·exact eqP_len _ h
theorem fixLike {w : World} {B : Nat} {A : Option Addr} {c : Nat} {p : Pat} (h : NewS w B A c p.parts) (hl : p.parts.length ≤ 16384) (hs : SzP 600 600 p) : SmallN w B ⟨A,c,p⟩:=⟨h,hl,fun s hs'=>by have:=hs.each s hs';omega⟩
set_option maxRecDepth 40000 in
set_option maxHeartbeats 16000000 in
theorem agree_c (r q : Rule) (a b : Pl) (w : World) (hr : RuleU w a r) (hs : SmallR r) (hq : RuleU w b q) (ht : SmallR q) (z1 : ∀ s ∈ r.left.parts,s.length ≤ 250) (z2 : ∀ s ∈ r.right.parts,s.length ≤ 250) (z3 : ∀ s ∈ q.left.parts,s.length ≤ 250) (z4 : ∀ s ∈ q.right.parts,s.length ≤ 250) :
  Calls Tryz.prog 43 #[ruleV a r,ruleV b q] w fun e w'=>AgEnd (agE r q) w.heap.size e w' ∧ Calm w w':=by
 obtain ⟨nl,hnl⟩ : ∃ nl,r.left.parts.length = nl:=⟨_,rfl⟩
 obtain ⟨nr,hnr⟩ : ∃ nr,r.right.parts.length = nr:=⟨_,rfl⟩
 obtain ⟨lr,hlr⟩ : ∃ lr,r.left.rest = lr:=⟨_,rfl⟩
 obtain ⟨rr,hrr⟩ : ∃ rr,r.right.rest = rr:=⟨_,rfl⟩
 obtain ⟨ex,hex⟩ : ∃ ex,r.excl = ex:=⟨_,rfl⟩
 obtain ⟨ql,hql⟩ : ∃ ql,q.left.parts.length = ql:=⟨_,rfl⟩
 obtain ⟨qr,hqr⟩ : ∃ qr,q.right.parts.length = qr:=⟨_,rfl⟩
 obtain ⟨kl,hkl⟩ : ∃ kl,q.left.rest = kl:=⟨_,rfl⟩
 obtain ⟨kr,hkr⟩ : ∃ kr,q.right.rest = kr:=⟨_,rfl⟩
 obtain ⟨qx,hqx⟩ : ∃ qx,q.excl = qx:=⟨_,rfl⟩
 obtain ⟨w1,hw1⟩ : ∃ w1,w1 = ((w.alloc (.cells #[.bool ex,.slice a.AL nl a.cl,.bool lr,.slice a.AR nr a.cr,.bool rr] 52)).alloc (.cells #[.bool qx,.slice b.AL ql b.cl,.bool kl,.slice b.AR qr b.cr,.bool kr] 52)).alloc (.cells #[.slice none 0 0,.bool false] 40):=⟨_,rfl⟩
 have hc1 : Calm w w1:=by rw [hw1];exact (((Calm.refl w).alloc _).alloc _).alloc _
 have hbr : FiveB w1 w.heap.size (.bool ex) (.slice a.AL nl a.cl) (.bool lr) (.slice a.AR nr a.cr) (.bool rr):=by
  rw [hw1]
  exact (FiveB.new w _ _ _ _ _ _).calm (((Calm.refl _).alloc _).alloc _)
 have hbq : FiveB w1 (w.heap.size + 1) (.bool qx) (.slice b.AL ql b.cl) (.bool kl) (.slice b.AR qr b.cr) (.bool kr):=by
  rw [hw1]
  have:=(FiveB.new (w.alloc (.cells #[.bool ex,.slice a.AL nl a.cl,.bool lr,.slice a.AR nr a.cr,.bool rr] 52)) (.bool qx) (.slice b.AL ql b.cl) (.bool kl) (.slice b.AR qr b.cr) (.bool kr) 52).calm ((Calm.refl _).alloc (.cells #[.slice none 0 0,.bool false] 40))
  simpa using this
 have hbz : TwoB w1 (w.heap.size + 1 + 1) (.slice none 0 0) (.bool false):=by
  rw [hw1]
  have:=TwoB.new ((w.alloc (.cells #[.bool ex,.slice a.AL nl a.cl,.bool lr,.slice a.AR nr a.cr,.bool rr] 52)).alloc (.cells #[.bool qx,.slice b.AL ql b.cl,.bool kl,.slice b.AR qr b.cr,.bool kr] 52)) (.slice none 0 0) (.bool false) 40
  simpa using this
 obtain ⟨v,hv⟩ : ∃ v,bothE r q = v:=⟨_,rfl⟩
 have KB : Hid (∀ W,Calm w1 W → Calls Tryz.prog 51 #[.agg #[.bool ex,.slice a.AL nl a.cl,.bool lr,.slice a.AR nr a.cr,.bool rr],.agg #[.bool qx,.slice b.AL ql b.cl,.bool kl,.slice b.AR qr b.cr,.bool kr]] W fun e w'=>e = .returned (.int .i64 v) ∧ Calm W w'):=fun W hW=>by
  have:=checkBoth_c r q a b W ((hr.calm hc1).calm hW) ((hq.calm hc1).calm hW)
  unfold ruleV at this
  rw [hnl,hnr,hlr,hrr,hex,hql,hqr,hkl,hkr,hqx,hv] at this
  exact this
 have hv0 : v = 0 → ruleErr r = 0 ∧ ruleErr q = 0:=fun h=>by
  unfold bothE at hv
  by_cases h1 : ruleErr r ≠ 0
  ·rw [if_pos h1] at hv
   exact absurd (hv.trans h) h1
  ·rw [if_neg h1] at hv
   exact ⟨by simpa using h1,hv.trans h⟩
 have hal : PatA w a.AL a.cl r.left:=⟨hr.left hs,hr.lroom,hr.lcap⟩
 have har : PatA w a.AR a.cr r.right:=⟨hr.right hs,hr.rroom,hr.rcap⟩
 have hbl : PatA w b.AL b.cl q.left:=⟨hq.left ht,hq.lroom,hq.lcap⟩
 have hbr2 : PatA w b.AR b.cr q.right:=⟨hq.right ht,hq.rroom,hq.rcap⟩
 have KM1 : Hid (∀ m,v = 0 → meetP r.left q.left = some m → ∀ W,Calm w1 W → Calls Tryz.prog 34 #[.agg #[.slice a.AL nl a.cl,.bool lr],.agg #[.slice b.AL ql b.cl,.bool kl]] W fun e w'=>(∃ A2 c2,e = .returned (.tuple #[.agg #[.slice A2 m.parts.length c2,.bool m.rest],.bool true]) ∧ SmallN w' W.heap.size ⟨A2,c2,m⟩) ∧ Calm W w'):=fun m h0 hm W hW=>by
  have:=meet_yes r.left q.left m a.AL b.AL a.cl b.cl W ((hal.calm hc1).calm hW) ((hbl.calm hc1).calm hW) (ruleErr_twin.1 (hv0 h0).1).lp (ruleErr_twin.1 (hv0 h0).2).lp hm
  rw [hnl,hlr,hql,hkl] at this
  exact this
 have KM0 : Hid (v = 0 → meetP r.left q.left = none → ∀ W,Calm w1 W → Calls Tryz.prog 34 #[.agg #[.slice a.AL nl a.cl,.bool lr],.agg #[.slice b.AL ql b.cl,.bool kl]] W fun e w'=>e = .returned (.tuple #[.agg #[.slice none 0 0,.bool false],.bool false]) ∧ Calm W w'):=fun h0 hm W hW=>by
  have:=meet_no r.left q.left a.AL b.AL a.cl b.cl W ((hal.calm hc1).calm hW) ((hbl.calm hc1).calm hW) (ruleErr_twin.1 (hv0 h0).1).lp (ruleErr_twin.1 (hv0 h0).2).lp hm
  rw [hnl,hlr,hql,hkl] at this
  exact this
 have KC : Hid (∀ m,v = 0 → meetP r.left q.left = some m → ∀ W A2 c2,Calm w1 W → PatA W A2 c2 m → Calls Tryz.prog 52 #[.agg #[.slice a.AL nl a.cl,.bool lr],.agg #[.slice A2 m.parts.length c2,.bool m.rest],.agg #[.slice a.AR nr a.cr,.bool rr]] W fun e w'=>CarryEnd (carryP r.left r.right m) W.heap.size e w' ∧ Calm W w'):=fun m h0 hm W A2 c2 hW hPm=>
  carry_c r.left m r.right nl m.parts.length nr a.cl c2 a.cr lr m.rest rr a.AL A2 a.AR W (inner_meet (hv0 h0).1 hm) ((hal.calm hc1).calm hW) hPm ((har.calm hc1).calm hW) hnl rfl hnr hlr rfl hrr
 have KD : Hid (∀ m,v = 0 → meetP r.left q.left = some m → ∀ W A2 c2,Calm w1 W → PatA W A2 c2 m → Calls Tryz.prog 52 #[.agg #[.slice b.AL ql b.cl,.bool kl],.agg #[.slice A2 m.parts.length c2,.bool m.rest],.agg #[.slice b.AR qr b.cr,.bool kr]] W fun e w'=>CarryEnd (carryP q.left q.right m) W.heap.size e w' ∧ Calm W w'):=fun m h0 hm W A2 c2 hW hPm=>
  carry_c q.left m q.right ql m.parts.length qr b.cl c2 b.cr kl m.rest kr b.AL A2 b.AR W (inner_meet (hv0 h0).2 ((meetP_comm _ _).trans hm)) ((hbl.calm hc1).calm hW) hPm ((hbr2.calm hc1).calm hW) hql rfl hqr hkl rfl hkr
 have HX1 : Hid (v ≠ 0 → agE r q = (none,v)):=fun h=>by
  unfold agE
  unfold bothE at hv
  by_cases h1 : ruleErr r ≠ 0
  ·rw [if_pos h1] at hv ⊢
   rw [hv]
  ·rw [if_neg h1] at hv ⊢
   rw [hv,if_pos h]
 have HX3 : Hid (v = 0 → meetP r.left q.left = none → agE r q = (none,0)):=fun h hm=>by
  unfold agE
  rw [if_neg (by simpa using (hv0 h).1),if_neg (by simpa using (hv0 h).2),hm]
 have HX4 : Hid (∀ m,v = 0 → meetP r.left q.left = some m → agE r q = if 12 < (carryP r.left r.right m).parts.length ∨ 12 < (carryP q.left q.right m).parts.length then (none,43) else (eqzP (starN m + 1) m (carryP r.left r.right m) (carryP q.left q.right m),0)):=fun m h hm=>by
  unfold agE
  rw [if_neg (by simpa using (hv0 h).1),if_neg (by simpa using (hv0 h).2),hm]
  simp only
  by_cases h12 : 12 < (carryP r.left r.right m).parts.length ∨ 12 < (carryP q.left q.right m).parts.length
  ·rw [if_pos h12,if_pos h12]
  ·rw [if_neg h12,if_neg h12]
   unfold eqzP
   by_cases hl : (carryP r.left r.right m).parts.length ≠ (carryP q.left q.right m).parts.length
   ·rw [if_pos hl,if_pos hl]
   ·rw [if_neg hl,if_neg hl]
 have HMt : Hid (∀ m,v = 0 → meetP r.left q.left = some m → ((Inner r.left r.right m ∧ Inner q.left q.right m) ∧ SzP 600 600 m) ∧ SzP 600 600 (carryP r.left r.right m) ∧ SzP 600 600 (carryP q.left q.right m)):=fun m h hm=>by
  have ia:=inner_meet (hv0 h).1 hm
  have ib:=inner_meet (hv0 h).2 ((meetP_comm _ _).trans hm)
  have sm : ∀ s ∈ m.parts,s.length ≤ 250:=meet_each hm z1 z3 (by decide)
  have sx : ∀ s ∈ (carryP r.left r.right m).parts,s.length ≤ 250 + 250:=carry_each ia z2 sm
  have sy : ∀ s ∈ (carryP q.left q.right m).parts,s.length ≤ 250 + 250:=carry_each ib z4 sm
  exact ⟨⟨⟨ia,ib⟩,⟨fun s h=>by have:=sm s h;omega,fun s h _=>by have:=sm s h;omega⟩⟩,⟨fun s h=>by have:=sx s h;omega,fun s h _=>by have:=sx s h;omega⟩,⟨fun s h=>by have:=sy s h;omega,fun s h _=>by have:=sy s h;omega⟩⟩
 have HW:=Lib.hid hw1
 have HC:=Lib.hid hc1
 have HBr:=Lib.hid hbr
 have HBq:=Lib.hid hbq
 have HBz:=Lib.hid hbz
 have hsz : w.heap.size + 1 + 1 < w1.heap.size:=hbz.lt
 unfold ruleV
 rw [hnl,hnr,hlr,hrr,hex,hql,hqr,hkl,hkr,hqx]
 clear hw1 hc1 hbr hbq hbz hr hs hq ht z1 z2 z3 z4 hnl hnr hlr hrr hex hql hqr hkl hkr hqx hv hv0 hal har hbl hbr2
 have HC8 : Hid (∀ W,Calm w1 W → ∀ u0 u1,Calm w ((W.setCell ⟨w.heap.size + 1 + 1,0,none⟩ u0).setCell ⟨w.heap.size + 1 + 1,1,none⟩ u1)):=fun W hW u0 u1=>Below.setCell (p:=⟨w.heap.size + 1 + 1,1,none⟩) (Below.setCell (p:=⟨w.heap.size + 1 + 1,0,none⟩) (HC.out.trans hW) (by show w.heap.size ≤ w.heap.size + 1 + 1;omega) _) (by show w.heap.size ≤ w.heap.size + 1 + 1;omega) _
 go_enter Tryz.func43,Tryz.ntmps43
 have b:=HBr.out
 have b0:=b.c0
 have b1:=b.c1
 have b2:=b.c2
 have b3:=b.c3
 have b4:=b.c4
 have b:=HBq.out
 have d0:=b.c0
 have d1:=b.c1
 have d2:=b.c2
 have d3:=b.c3
 have d4:=b.c4
 clear b
 go_wp2_with fail
 rw [← HW.out]
 refine (KB.out w1 (Calm.refl _)).mono ?_
 rintro e w3 ⟨rfl,hc3⟩
 clear b0 b1 b2 b3 b4 d0 d1 d2 d3 d4
 have HC3:=Lib.hid hc3
 clear hc3
 by_cases hv0 : v = 0
 ·subst hv0
  have b:=HBr.out.calm HC3.out
  have b1:=b.c1
  have b2:=b.c2
  have b:=HBq.out.calm HC3.out
  have d1:=b.c1
  have d2:=b.c2
  clear b
  rcases hmm : meetP r.left q.left with _ | m
  ·have HX:=Lib.hid (HX3.out (by trivial) hmm)
   have KM:=Lib.hid (KM0.out (by trivial) hmm w3 HC3.out)
   clear hmm
   go_wp2_with fail
   refine KM.out.mono ?_
   rintro e w4 ⟨rfl,hc4⟩
   have hz:=HBz.out.calm ((HC3.out.trans hc4).alloc (.cells #[.slice none 0 0,.bool false] 40))
   have z0:=hz.c0
   have z1:=hz.c1
   have f0:=hz.fz 0
   have f1:=hz.fz 1
   have HC4 : Hid (Calm w1 w4):=HC3.out.trans hc4
   clear hz hc4 b1 b2 d1 d2
   go_wp2_with fail
   refine bodyPost_ret (v:=.tuple #[.agg #[.slice none 0 0,.bool false],.bool false,.int .i64 0]) ?_ rfl ⟨.inl (by rw [HX.out];exact ⟨rfl,rfl⟩),HC8.out _ (HC4.out.alloc _) _ _⟩
   rw [results_cell_tt rfl]
   go_simp
  ·have hx:=HX4.out m (by trivial) hmm
   have hmt:=HMt.out m (by trivial) hmm
   have KM:=Lib.hid (KM1.out m (by trivial) hmm w3 HC3.out)
   have KCm:=Lib.hid (KC.out m (by trivial) hmm)
   have KDm:=Lib.hid (KD.out m (by trivial) hmm)
   clear hmm
   obtain ⟨cr,hcr⟩ : ∃ cr,carryP r.left r.right m = cr:=⟨_,rfl⟩
   obtain ⟨dr,hdr⟩ : ∃ dr,carryP q.left q.right m = dr:=⟨_,rfl⟩
   have htw : (cr.parts.length ≤ 12 → Sy.Twin m cr) ∧ (dr.parts.length ≤ 12 → Sy.Twin m dr):=⟨fun h=>by rw [← hcr];exact hmt.1.1.1.twin (by rw [hcr];omega),fun h=>by rw [← hdr];exact hmt.1.1.2.twin (by rw [hdr];omega)⟩
   rw [hcr,hdr] at hx hmt
   rw [hcr] at KCm
   rw [hdr] at KDm
   obtain ⟨mn,hmn⟩ : ∃ mn,m.parts.length = mn:=⟨_,rfl⟩
   obtain ⟨mr,hmr⟩ : ∃ mr,m.rest = mr:=⟨_,rfl⟩
   obtain ⟨cn,hcn⟩ : ∃ cn,cr.parts.length = cn:=⟨_,rfl⟩
   obtain ⟨ct,hct⟩ : ∃ ct,cr.rest = ct:=⟨_,rfl⟩
   obtain ⟨dn,hdn⟩ : ∃ dn,dr.parts.length = dn:=⟨_,rfl⟩
   obtain ⟨dt,hdt⟩ : ∃ dt,dr.rest = dt:=⟨_,rfl⟩
   rw [hmn,hmr] at KM KCm KDm
   have hst : starN m < starN m + 1 ∧ starN m + 1 ≤ 13:=⟨Nat.lt_succ_self _,by have h1:=List.length_filter_le isStar m.parts;have h2:=(patErr_iff.1 hmt.1.1.1.good).2.2.1;show (m.parts.filter isStar).length + 1 ≤ 13;omega⟩
   have HN:=Lib.hid (And.intro hcn (And.intro hct (And.intro hdn hdt)))
   have HMn:=Lib.hid (And.intro hmn hmr)
   have HSt:=Lib.hid hst
   have HMt2:=Lib.hid hmt
   have HTw:=Lib.hid htw
   rw [hcn,hdn] at hx
   have HX:=Lib.hid hx
   clear hx hcr hdr hmn hmr hcn hct hdn hdt hst hmt htw HMt
   go_wp2_with fail
   refine KM.out.mono ?_
   rintro e w4 ⟨⟨A2,c2,rfl,hSm⟩,hc4⟩
   clear b1 b2 d1 d2
   have HSm4:=Lib.hid hSm
   have HC34 : Hid (Calm w3 w4):=hc4
   have HC5 : Hid (Calm w1 (w4.alloc (.cells #[.slice A2 mn c2,.bool mr] 40))):=(HC3.out.trans hc4).alloc _
   have HC45 : Hid (Calm w4 (w4.alloc (.cells #[.slice A2 mn c2,.bool mr] 40))):=(Calm.refl _).alloc _
   have hm:=TwoB.new w4 (.slice A2 mn c2) (.bool mr) 40
   have b:=HBr.out.calm HC5.out
   have b1:=b.c1
   have b2:=b.c2
   have b3:=b.c3
   have b4:=b.c4
   have m0:=hm.c0
   have m1:=hm.c1
   have HMb:=Lib.hid hm
   clear b hm hSm hc4
   go_wp2_with fail
   obtain ⟨w5,hw5⟩ : ∃ w5,w5 = w4.alloc (.cells #[.slice A2 mn c2,.bool mr] 40):=⟨_,rfl⟩
   rw [← hw5] at HC5 HC45 HMb ⊢
   obtain ⟨M,hM⟩ : ∃ M,w4.heap.size = M:=⟨_,rfl⟩
   rw [hM] at HMb
   simp only [hM]
   have HMs:=Lib.hid hM
   clear hw5 hM b1 b2 b3 b4 m0 m1
   refine (KCm.out w5 A2 c2 HC5.out (HSm4.out.calm HC45.out).a).mono ?_
   rintro e w6 ⟨hE,hc6⟩
   have HC6 : Hid (Calm w5 w6):=hc6
   clear hc6
   rcases hE with ⟨h12,rfl⟩ | ⟨h12,A3,c3,rfl,hN3⟩
   ·rw [HN.out.1] at h12
    have HX2' : Hid (agE r q = (none,43)):=by
     show _ = _
     rw [HX.out,if_pos (.inl h12)]
    have hz:=HBz.out.calm ((HC5.out.trans HC6.out).alloc (.cells #[.slice none 0 0,.bool false] 40))
    have z0:=hz.c0
    have z1:=hz.c1
    have f0:=hz.fz 0
    have f1:=hz.fz 1
    clear hz h12
    go_wp2_with fail
    refine bodyPost_ret (v:=.tuple #[.agg #[.slice none 0 0,.bool false],.bool false,.int .i64 43]) ?_ rfl ⟨.inl (by rw [HX2'.out];exact ⟨rfl,rfl⟩),HC8.out _ ((HC5.out.trans HC6.out).alloc _) _ _⟩
    rw [results_cell_tt rfl]
    go_simp
   ·have hTc:=HTw.out.1 h12
    rw [HN.out.1] at h12
    rw [HN.out.1,HN.out.2.1]
    have HTc:=Lib.hid hTc
    have HC7 : Hid (Calm w1 (w6.alloc (.cells #[.slice A3 cn c3,.bool ct] 40))):=(HC5.out.trans HC6.out).alloc _
    have HC47 : Hid (Calm w5 (w6.alloc (.cells #[.slice A3 cn c3,.bool ct] 40))):=HC6.out.alloc _
    have HN3 : Hid (NewS (w6.alloc (.cells #[.slice A3 cn c3,.bool ct] 40)) w5.heap.size A3 c3 cr.parts):=hN3.calm ((Calm.refl _).alloc _)
    have hn:=TwoB.new w6 (.slice A3 cn c3) (.bool ct) 40
    have HNb:=Lib.hid hn
    have hm:=HMb.out.calm (HC6.out.alloc (.cells #[.slice A3 cn c3,.bool ct] 40))
    have m0:=hm.c0
    have m1:=hm.c1
    have b:=HBq.out.calm HC7.out
    have d1:=b.c1
    have d2:=b.c2
    have d3:=b.c3
    have d4:=b.c4
    clear b hm hn hN3 hTc
    go_wp2_with fail
    obtain ⟨w7,hw7⟩ : ∃ w7,w7 = w6.alloc (.cells #[.slice A3 cn c3,.bool ct] 40):=⟨_,rfl⟩
    rw [← hw7] at HC7 HC47 HNb HN3 ⊢
    obtain ⟨O,hO⟩ : ∃ O,w6.heap.size = O:=⟨_,rfl⟩
    rw [hO] at HNb
    simp only [hO]
    clear hw7 hO d1 d2 d3 d4 m0 m1
    refine (KDm.out w7 A2 c2 HC7.out (HSm4.out.calm (HC45.out.trans HC47.out)).a).mono ?_
    rintro e w8 ⟨hE,hc8⟩
    have HC9 : Hid (Calm w7 w8):=hc8
    clear hc8
    rcases hE with ⟨h13,rfl⟩ | ⟨h13,A4,c4,rfl,hN4⟩
    ·rw [HN.out.2.2.1] at h13
     have HX2' : Hid (agE r q = (none,43)):=by
      show _ = _
      rw [HX.out,if_pos (.inr h13)]
     have hz:=HBz.out.calm ((HC7.out.trans HC9.out).alloc (.cells #[.slice none 0 0,.bool false] 40))
     have z0:=hz.c0
     have z1:=hz.c1
     have f0:=hz.fz 0
     have f1:=hz.fz 1
     clear hz h12 h13
     go_wp2_with fail
     refine bodyPost_ret (v:=.tuple #[.agg #[.slice none 0 0,.bool false],.bool false,.int .i64 43]) ?_ rfl ⟨.inl (by rw [HX2'.out];exact ⟨rfl,rfl⟩),HC8.out _ ((HC7.out.trans HC9.out).alloc _) _ _⟩
     rw [results_cell_tt rfl]
     go_simp
    ·have hTd:=HTw.out.2 h13
     rw [HN.out.2.2.1] at h13
     have HX2' : Hid (agE r q = (eqzP (starN m + 1) m cr dr,0)):=by
      show _ = _
      rw [HX.out,if_neg (by omega)]
     rw [HN.out.2.2.1,HN.out.2.2.2]
     obtain ⟨wz,hwz⟩ : ∃ wz,wz = w8.alloc (.cells #[.slice A4 dn c4,.bool dt] 40):=⟨_,rfl⟩
     obtain ⟨D,hD⟩ : ∃ D,w8.heap.size = D:=⟨_,rfl⟩
     have hc89 : Calm w8 wz:=by
      show Below _ _ _
      rw [hwz]
      exact (Calm.refl _).alloc _
     have HC8z : Hid (Calm w7 wz):=HC9.out.trans hc89
     have HC4z : Hid (Calm w4 wz):=HC45.out.trans (HC47.out.trans HC8z.out)
     have HC1z : Hid (Calm w1 wz):=HC7.out.trans HC8z.out
     have cl : cr.parts.length ≤ 16384 ∧ dr.parts.length ≤ 16384:=⟨by rw [HN.out.1];omega,by rw [HN.out.2.2.1];omega⟩
     have pX : PatA wz A3 c3 cr:=((fixLike (HN3.out.calm HC8z.out) cl.1 HMt2.out.2.1)).a
     have pY : PatA wz A4 c4 dr:=((fixLike (hN4.calm hc89) cl.2 HMt2.out.2.2)).a
     have KE:=Lib.hid (equalize_c m cr dr (starN m + 1) mn cn dn A2 A3 A4 c2 c3 c4 mr ct dt wz (HSm4.out.calm HC4z.out).a pX pY HTc.out hTd HSt.out.1 HSt.out.2 HMt2.out.1.2 HMt2.out.2.1 HMt2.out.2.2 HMn.out ⟨HN.out.1,HN.out.2.1⟩ ⟨HN.out.2.2.1,HN.out.2.2.2⟩)
     have hm:=HMb.out.calm (HC47.out.trans HC8z.out)
     have m0:=hm.c0
     have m1:=hm.c1
     have hn:=HNb.out.calm HC8z.out
     have n0:=hn.c0
     have n1:=hn.c1
     have HW8:=Lib.hid hwz
     have HDs:=Lib.hid hD
     have hMz : M < wz.heap.size:=hm.lt
     rw [hwz] at m0 m1 n0 n1
     clear hm hn hN4 hwz hD hc89 cl pX pY h12 h13 hTd
     go_wp2_with fail
     rw [← HW8.out,HDs.out]
     clear m0 m1 n0 n1
     refine KE.out.mono ?_
     rintro e w9 ⟨hE,hc9⟩
     have HC19 : Hid (Calm w1 w9):=HC1z.out.trans hc9
     have HC49 : Hid (Calm w4 w9):=HC4z.out.trans hc9
     have hmb:=HMb.out.calm (HC47.out.trans (HC8z.out.trans hc9))
     have m0:=hmb.c0
     have m1:=hmb.c1
     have fm0:=hmb.fz 0
     have fm1:=hmb.fz 1
     have hsz1 : w1.heap.size ≤ w3.heap.size ∧ w3.heap.size ≤ w4.heap.size:=⟨HC3.out.size,HC34.out.size⟩
     have hMne : ¬ w.heap.size + 1 + 1 = M:=by have:=HMs.out;omega
     have hMne2 : ¬ M = w.heap.size + 1 + 1:=fun h=>hMne h.symm
     have HCm : Hid (∀ u0 u1,Calm w1 ((w9.setCell ⟨M,0,none⟩ u0).setCell ⟨M,1,none⟩ u1)):=fun u0 u1=>Below.setCell (p:=⟨M,1,none⟩) (Below.setCell (p:=⟨M,0,none⟩) HC19.out (by have:=HMs.out;show w1.heap.size ≤ M;omega) _) (by have:=HMs.out;show w1.heap.size ≤ M;omega) _
     have HCm4 : Hid (∀ u0 u1,Calm w4 ((w9.setCell ⟨M,0,none⟩ u0).setCell ⟨M,1,none⟩ u1)):=fun u0 u1=>Below.setCell (p:=⟨M,1,none⟩) (Below.setCell (p:=⟨M,0,none⟩) HC49.out (by have:=HMs.out;show w4.heap.size ≤ M;omega) _) (by have:=HMs.out;show w4.heap.size ≤ M;omega) _
     rcases heq : eqzP (starN m + 1) m cr dr with _ | p
     ·rw [heq] at hE HX2'
      have he : e = .returned (.tuple #[.agg #[.slice none 0 0,.bool false],.bool false]):=hE
      subst he
      have hz:=HBz.out.calm (HCm.out (.slice none 0 0) (.bool false))
      have z0:=hz.c0
      have z1:=hz.c1
      have f0:=hz.fz 0
      have f1:=hz.fz 1
      have hm2:=two_put hmb (.slice none 0 0) (.bool false)
      have p0:=hm2.c0
      have p1:=hm2.c1
      clear hz hm2 hmb hE heq hc9
      go_wp2_with fail
      refine bodyPost_ret (v:=.tuple #[.agg #[.slice none 0 0,.bool false],.bool false,.int .i64 0]) ?_ rfl ⟨.inl (by rw [HX2'.out];exact ⟨rfl,rfl⟩),HC8.out _ (HCm.out _ _) _ _⟩
      rw [results_cell_tt rfl]
      go_simp
     ·rw [heq] at hE HX2'
      obtain ⟨A9,c9,rfl,hON⟩:=hE
      have hpl : p.parts.length = mn:=by rw [eqzP_len heq];exact HMn.out.1
      have hfin : SmallN ((w9.setCell ⟨M,0,none⟩ (.slice A9 mn c9)).setCell ⟨M,1,none⟩ (.bool p.rest)) w3.heap.size ⟨A9,c9,p⟩:=by
       rcases hON with ⟨rfl,rfl,rfl⟩ | hnw
       ·exact HSm4.out.calm (HCm4.out _ _)
       ·exact smallN_mono (smallN_set (smallN_set hnw _ (by show M < _;omega)) _ (by show M < _;omega)) (by have:=HC4z.out.size;omega)
      have HFin : Hid (∀ u0 u1,SmallN ((((w9.setCell ⟨M,0,none⟩ (.slice A9 mn c9)).setCell ⟨M,1,none⟩ (.bool p.rest)).setCell ⟨w.heap.size + 1 + 1,0,none⟩ u0).setCell ⟨w.heap.size + 1 + 1,1,none⟩ u1) w.heap.size ⟨A9,c9,p⟩):=fun u0 u1=>
       smallN_mono (smallN_set (smallN_set hfin u0 (by show w.heap.size + 1 + 1 < _;omega)) u1 (by show w.heap.size + 1 + 1 < _;omega)) (by omega)
      have HPl:=Lib.hid hpl
      obtain ⟨pr,hpr⟩ : ∃ pr,p.rest = pr:=⟨_,rfl⟩
      have HPr:=Lib.hid hpr
      rw [hpr] at HFin ⊢
      have hz:=HBz.out.calm (HCm.out (.slice A9 mn c9) (.bool pr))
      have z0:=hz.c0
      have z1:=hz.c1
      have f0:=hz.fz 0
      have f1:=hz.fz 1
      have hm2:=two_put hmb (.slice A9 mn c9) (.bool pr)
      have p0:=hm2.c0
      have p1:=hm2.c1
      clear hz hm2 hmb heq hc9 hpl hfin hON hpr
      go_wp2_with fail
      refine bodyPost_ret (v:=.tuple #[.agg #[.slice A9 mn c9,.bool pr],.bool true,.int .i64 0]) ?_ rfl ⟨.inr ⟨p,A9,c9,HX2'.out,by rw [HPl.out,HPr.out],HFin.out _ _⟩,HC8.out _ (HCm.out _ _) _ _⟩
      rw [results_cell_tt rfl]
      go_simp
 ·have HX:=Lib.hid (HX1.out hv0)
  have hv1 : (v == 0) = false:=by rw [beq_eq_false_iff_ne];exact hv0
  have hv2 : (v != 0) = true:=by simpa using hv0
  have hz:=HBz.out.calm HC3.out
  have z0:=hz.c0
  have z1:=hz.c1
  have f0:=hz.fz 0
  have f1:=hz.fz 1
  clear hz
  go_wp2_with fail
  refine bodyPost_ret (v:=.tuple #[.agg #[.slice none 0 0,.bool false],.bool false,.int .i64 v]) ?_ rfl ⟨.inl (by rw [HX.out];exact ⟨rfl,rfl⟩),HC8.out _ HC3.out _ _⟩
  rw [results_cell_tt rfl]
  go_simp
end Go.Proofs.YtnlnclefedohkaaGreatDoor
