/- Walk: the reference's common. -/
import Derived.Deep.DeepCutAuto
import Derived.Deep.RegionHeld3
import Derived.Test.YtnlnclefedohkaaGreatDoorZColE
import Derived.Test.YtnlnclefedohkaaGreatDoorZRedM
import Derived.Test.YtnlnclefedohkaaGreatDoorZRMeetY
import Derived.Test.YtnlnclefedohkaaGreatDoorZVoidB
set_option linter.unusedVariables false
set_option linter.unusedSimpArgs false
namespace Go.Proofs.YtnlnclefedohkaaGreatDoor
open Go Go.RowKit Sy
structure RCom (w4 wx : World) (B10 : Nat) (v0 v1 : Value) (A8 : Option Addr) (N c8 : Nat) (hs : List Pat) : Prop where
 calm : Calm w4 wx
 box : RgB wx B10 v0 v1 (.slice A8 N c8)
 holes : PatsR wx A8 hs
theorem rcom_new {w4 w8 : World} {v0 v1 : Value} {A8 : Option Addr} {N c8 : Nat} {hs : List Pat} (hc : Calm w4 w8) (hr : PatsR w8 A8 hs) : RCom w4 (w8.alloc (.cells #[v0,v1,.slice A8 N c8] 68)) w8.heap.size v0 v1 A8 N c8 hs:=
 ⟨hc.alloc _,RgB.new w8 _ _ _,hr.calm ((Calm.refl w8).alloc _)⟩
theorem rcom_set {w4 w8 : World} {b : Nat} {z0 z1 z2 v0 v1 : Value} {A8 : Option Addr} {N c8 : Nat} {hs : List Pat} {l : List NewP} (hz : RgB w8 b z0 z1 z2) (h4 : w4.heap.size ≤ b) (hown : OwnX encP 2 40 w4 w8 (.slice A8 N c8) l) (he : ∀ x ∈ l,PatA w4 x.A x.c x.p) (hl : l.length ≤ 16384) (hm : l.map (·.p) = hs) :
  RCom w4 (((w8.setCell ⟨b,0,none⟩ v0).setCell ⟨b,1,none⟩ v1).setCell ⟨b,2,none⟩ (.slice A8 N c8)) b v0 v1 A8 N c8 hs:=by
 have hne:=hown.kindne (by decide) hz.kind
 have h3:=((hown.setX (p:=⟨b,0,none⟩) v0 h4 hne).setX (p:=⟨b,1,none⟩) v1 h4 hne).setX (p:=⟨b,2,none⟩) (.slice A8 N c8) h4 hne
 have hrd:=own_readsR h3 (fun z hz=>(he z hz).calm h3.calm) hl
 rw [hm] at hrd
 exact ⟨h3.calm,hz.set3 _ _ _,hrd⟩
theorem rlenp_v (b : Pat) (hs : List Pat) (v : Nat) (n m : Nat) (re : Bool) (A : Option Addr) (c : Nat) (HA : Option Addr) (hc : Nat) (w : World) (h : StrsR w A b.parts) (h2 : PatsR w HA hs) (hg : patErr b = 0) (hgs : ∀ p ∈ hs,patErr p = 0) (hv : leastLen b hs = v) (hn : b.parts.length = n) (hm : hs.length = m) (hre : b.rest = re) :
  Calls Tryz.prog 42 #[.agg #[.slice A n c,.bool re,.slice HA m hc]] w fun e w'=>e = .returned (.int .i64 v) ∧ Calm w w':=by
 have:=rlen_c b hs A c HA hc w h h2 (allOk_of hg) (fun p hp=>allOk_of (hgs p hp))
 subst hv hn hm hre
 exact this
set_option maxRecDepth 100000 in
set_option maxHeartbeats 8000000 in
theorem rcommon_c (x y : Reg) (v : Bool) (n m n' m' : Nat) (re re' : Bool) (A : Option Addr) (c : Nat) (HA : Option Addr) (hc : Nat) (A' : Option Addr) (c' : Nat) (HA' : Option Addr) (hc' : Nat) (w : World) (h : PatA w A c x.b) (hh : PatsR w HA x.hs) (h' : PatA w A' c' y.b) (hh' : PatsR w HA' y.hs) (gx : patErr x.b = 0) (gy : patErr y.b = 0) (gxh : ∀ p ∈ x.hs,patErr p = 0) (gyh : ∀ p ∈ y.hs,patErr p = 0) (hv : commonG x y = v)
  (hn : x.b.parts.length = n) (hm : x.hs.length = m) (hre : x.b.rest = re) (hn' : y.b.parts.length = n') (hm' : y.hs.length = m') (hre' : y.b.rest = re') (hl : m + m' ≤ 16384) :
  Calls Tryz.prog 61 #[.agg #[.slice A n c,.bool re,.slice HA m hc],.agg #[.slice A' n' c',.bool re',.slice HA' m' hc']] w fun e w'=>e = .returned (.bool v) ∧ Calm w w':=by
 obtain ⟨w1,hw1⟩ : ∃ w1,w1 = (w.alloc (.cells #[.slice A n c,.bool re,.slice HA m hc] 68)).alloc (.cells #[.slice A' n' c',.bool re',.slice HA' m' hc'] 68):=⟨_,rfl⟩
 have hc1 : Calm w w1:=by rw [hw1];exact ((Calm.refl w).alloc _).alloc _
 have hbox : CBox w1 w.heap.size A n c re HA m hc A' n' c' re' HA' m' hc':=by
  rw [hw1]
  exact ⟨by simp,by simp [go_sem],by simp [go_sem],by simp [go_sem],by simp [go_sem],by simp [go_sem],by simp [go_sem]⟩
 have HX:=Lib.hid (And.intro (h.calm hc1) (hh.calm hc1))
 have HY:=Lib.hid (And.intro (h'.calm hc1) (hh'.calm hc1))
 have HN:=Lib.hid (And.intro hn (And.intro hm hre))
 have HN':=Lib.hid (And.intro hn' (And.intro hm' hre'))
 have HW:=Lib.hid hw1
 have HC:=Lib.hid hc1
 have HB:=Lib.hid hbox
 have x0:=hbox.x0
 have x1:=hbox.x1
 have y0:=hbox.y0
 have y1:=hbox.y1
 clear hbox hc1 h hh h' hh' hn hm hre hn' hm' hre'
 unfold commonG at hv
 rcases hmt : meetP x.b y.b with _ | mm
 ·rw [hmt] at hv
  have hv2 : Hid (v = false):=hv.symm
  have KM : Hid (∀ W,Calm w1 W → Calls Tryz.prog 39 #[.agg #[.slice A n c,.bool re],.agg #[.slice A' n' c',.bool re']] W fun e w'=>e = .returned (.tuple #[.agg #[.slice none 0 0,.bool false],.bool false]) ∧ Calm W w'):=fun W hW=>by
   have:=rmeet_no x.b y.b A A' c c' W (HX.out.1.calm hW) (HY.out.1.calm hW) gx gy hmt
   rw [HN.out.1,HN.out.2.2,HN'.out.1,HN'.out.2.2] at this
   exact this
  clear gx gy gxh gyh hmt hv hw1
  go_enter Tryz.func61,Tryz.ntmps61
  rw [HW.out] at x0 x1 y0 y1
  go_wp2_with fail
  rw [← HW.out]
  refine (KM.out w1 (Calm.refl _)).mono ?_
  rintro e w3 ⟨rfl,hc3⟩
  go_wp2_with fail
  go_ret
  exact ⟨ret_bool hv2.out.symm,HC.out.trans (hc3.trans ((Calm.refl _).alloc _))⟩
 ·rw [hmt] at hv
  simp only at hv
  obtain ⟨vz,hvz⟩ : ∃ vz,leastLen mm (x.hs ++ y.hs) = vz:=⟨_,rfl⟩
  have hv2 : Hid (v = (vz != 0)):=by
   show _ = _
   rw [← hv,← hvz]
  obtain ⟨lx,hlx,hX⟩:=HX.out.2.places
  obtain ⟨ly,hly,hY⟩:=HY.out.2.places
  have elx : lx.length = m:=by rw [← HN.out.2.1,← hlx,List.length_map]
  have ely : ly.length = m':=by rw [← HN'.out.2.1,← hly,List.length_map]
  have HLx:=Lib.hid (And.intro elx (And.intro hlx hX))
  have HLy:=Lib.hid (And.intro ely (And.intro hly hY))
  obtain ⟨N,hN⟩ : ∃ N,(x.hs ++ y.hs).length = N:=⟨_,rfl⟩
  obtain ⟨gn,hgn⟩ : ∃ gn,mm.parts.length = gn:=⟨_,rfl⟩
  obtain ⟨gr,hgr⟩ : ∃ gr,mm.rest = gr:=⟨_,rfl⟩
  have KM : Hid (∀ W,Calm w1 W → Calls Tryz.prog 39 #[.agg #[.slice A n c,.bool re],.agg #[.slice A' n' c',.bool re']] W fun e w'=>(∃ A2 c2,e = .returned (.tuple #[.agg #[.slice A2 gn c2,.bool gr],.bool true]) ∧ SmallN w' W.heap.size ⟨A2,c2,mm⟩) ∧ Calm W w'):=fun W hW=>by
   have:=rmeet_yes x.b y.b mm A A' c c' W (HX.out.1.calm hW) (HY.out.1.calm hW) gx gy hmt
   rw [HN.out.1,HN.out.2.2,HN'.out.1,HN'.out.2.2,hgn,hgr] at this
   exact this
  have gmm:=(meetP_some hmt).2.2.2
  have KV : Hid (∀ A2 c2 AC cC W,PatA W A2 c2 mm → PatsR W AC (x.hs ++ y.hs) → Calls Tryz.prog 42 #[.agg #[.slice A2 gn c2,.bool gr,.slice AC N cC]] W fun e w'=>e = .returned (.int .i64 vz) ∧ Calm W w'):=fun A2 c2 AC cC W h1 h2=>
   rlenp_v mm (x.hs ++ y.hs) vz gn N gr A2 c2 AC cC W h1.r h2 gmm (fun p hp=>(List.mem_append.1 hp).elim (gxh p) (gyh p)) hvz hgn hN hgr
  have HNe : Hid (m + m' = N):=by
   show m + m' = N
   rw [← hN,List.length_append,HN.out.2.1,HN'.out.2.1]
  have HNN:=Lib.hid hN
  clear gx gy gxh gyh gmm hmt hv hw1 hvz hgn hgr hN hlx hX hly hY elx ely
  go_enter Tryz.func61,Tryz.ntmps61
  rw [HW.out] at x0 x1 y0 y1
  go_wp2_with fail
  rw [← HW.out]
  refine (KM.out w1 (Calm.refl _)).mono ?_
  rintro e w3 ⟨⟨A2,c2,rfl,hs3⟩,hc3⟩
  clear x0 x1 y0 y1
  go_upto_region 4 with (fail)
  obtain ⟨w4,hw4⟩ : ∃ w4,w4 = w3.alloc (.cells #[.slice A2 gn c2,.bool gr] 40):=⟨_,rfl⟩
  rw [← hw4]
  have hc4 : Calm w3 w4:=by rw [hw4];exact (Calm.refl w3).alloc _
  have t0 : w4.cell? ⟨w3.heap.size,0,none⟩ = some (.slice A2 gn c2):=by rw [hw4];simp [go_sem]
  have t1 : w4.cell? ⟨w3.heap.size,1,none⟩ = some (.bool gr):=by rw [hw4];simp [go_sem]
  have tlt : w3.heap.size < w4.heap.size:=by rw [hw4];simp [go_sem]
  have HC4:=Lib.hid (hc3.trans hc4)
  have HS4:=Lib.hid (hs3.calm hc4)
  have hBx:=HB.out.calm HC4.out
  have HSX : Hid (∀ W,Calm w4 W → W.cell? ⟨w3.heap.size,0,none⟩ = some (.slice A2 gn c2) ∧ W.cell? ⟨w3.heap.size,1,none⟩ = some (.bool gr) ∧ W.cell? ⟨w.heap.size,2,none⟩ = some (.slice HA m hc) ∧ W.cell? ⟨w.heap.size + 1,2,none⟩ = some (.slice HA' m' hc')):=fun W hW=>
   ⟨Calm.at_ hW t0 tlt,Calm.at_ hW t1 tlt,Calm.at_ hW hBx.x2 (by have:=hBx.size;omega),Calm.at_ hW hBx.y2 (by have:=hBx.size;omega)⟩
  clear hw4 hc3 hc4 hs3 t0 t1 tlt hBx KM
  go_cut [7] (fun s wx=>∃ B10 A8 c8,s = .pointer (some ⟨B10,0,none⟩) ∧ Hid (RCom w4 wx B10 (.slice A2 gn c2) (.bool gr) A8 N c8 (x.hs ++ y.hs)))
  case first=>
   go_region_held3 (fun W=>W.cell? ⟨w3.heap.size,0,none⟩ = some (.slice A2 gn c2) ∧ W.cell? ⟨w3.heap.size,1,none⟩ = some (.bool gr) ∧ W.cell? ⟨w.heap.size,2,none⟩ = some (.slice HA m hc) ∧ W.cell? ⟨w.heap.size + 1,2,none⟩ = some (.slice HA' m' hc'))
    (first
     |with_reducible exact HSX.out _ hcy
     |with_reducible exact HSX.out _ (hcy.alloc _)
     |with_reducible exact HSX.out _ hcx
     |with_reducible exact HSX.out _ (hcx.alloc _)
     |with_reducible exact HSX.out _ (calm3' hcy hcx.size _ _ _)
     |with_reducible exact HSX.out _ (calm3' hcy (Nat.le_refl _) _ _ _)
     |with_reducible exact HSX.out _ (Calm.refl _)
     |with_reducible exact HSX.out _ (Below.drew (Calm.refl _))
     |with_reducible exact HSX.out _ (Below.drew ((Calm.refl _).alloc _))
     |with_reducible exact HSX.out _ ((Calm.refl _).alloc _)
     |go_keep)
    (first
     |(refine step_append_ps rfl _ (.tmp 20) rfl w4 (.slice none 0 0) [] lx (by simp [Act.eval,Act.put]) (OwnX.nil (by first | exact Below.drew (Calm.refl _) | exact Below.drew ((Calm.refl _).alloc _))) HA m hc (by simp [Act.eval,Act.put]) HLx.out.1 (HLx.out.2.2.read.calm (HC4.out.trans (by first | exact Below.drew (Calm.refl _) | exact Below.drew ((Calm.refl _).alloc _)))) (by simp;omega) ?_;intro v6 w6 hown6 hgr6;rw [List.nil_append] at hown6;obtain ⟨A6,c6,hv6⟩:=hown6.len_shape;rw [HLx.out.1] at hv6;subst hv6;have hcx : Calm w4 w6:=hown6.calm;(first | have hZ6 : RgB w6 w4.heap.size (.slice none 0 0) (.bool false) (.slice none 0 0):=RgB.own (RgB.calm (RgB.new w4 _ _ _) (Below.drew (Calm.refl _))) (OwnX.nil (enc:=encP) (K:=2) (T:=40) (Below.drew ((Calm.refl w4).alloc _))) hgr6 | skip))
     |(refine step_append_ps rfl (.tmp 21) (.tmp 23) rfl w4 (.slice A6 m c6) lx ly (by simp [Act.eval,Act.put]) (hown6.to (by first | exact Calm.refl _ | exact (Calm.refl _).alloc _)) HA' m' hc' (by simp [Act.eval,Act.put]) HLy.out.1 (HLy.out.2.2.read.calm (HC4.out.trans (hcx.trans (by first | exact Calm.refl _ | exact (Calm.refl _).alloc _)))) (by rw [HLx.out.1];omega) ?_;intro v8 w8 hown8 hgr8;obtain ⟨A8,c8,hv8⟩:=hown8.len_shape;rw [List.length_append,HLx.out.1,HLy.out.1,HNe.out] at hv8;subst hv8;have hcy : Calm w4 w8:=hown8.calm;(first | have hZ8 : RgB w8 w6.heap.size (.slice none 0 0) (.bool false) (.slice none 0 0):=RgB.own (RgB.new w6 _ _ _) (hown6.to ((Calm.refl w6).alloc _)) hgr8 | have hZ8 : RgB w8 w4.heap.size (.slice none 0 0) (.bool false) (.slice none 0 0):=RgB.own hZ6 hown6 hgr8 | skip);try (have z0:=hZ8.c0;have z1:=hZ8.c1;have z2:=hZ8.c2;have f0:=hZ8.f 0;have f1:=hZ8.f 1;have f2:=hZ8.f 2)))
   all_goals
    have hEv : ∀ z ∈ lx ++ ly,PatA w4 z.A z.c z.p:=fun z hz=>by
     rcases List.mem_append.1 hz with h | h
     ·exact (HLx.out.2.2.each z h).calm HC4.out
     ·exact (HLy.out.2.2.each z h).calm HC4.out
    have hEl : (lx ++ ly).length ≤ 16384:=by rw [List.length_append,HLx.out.1,HLy.out.1];exact hl
    have hEm : (lx ++ ly).map (·.p) = x.hs ++ y.hs:=by rw [List.map_append,HLx.out.2.1,HLy.out.2.1]
    have hrd:=own_readsR hown8 (fun z hz=>(hEv z hz).calm hcy) hEl
    rw [hEm] at hrd
    have hs6:=hcx.size
    go_wp2_with fail
    go_meet
    case rel=>
     first
      |exact ⟨_,_,_,rfl,rcom_new hcy hrd⟩
      |exact ⟨_,_,_,rfl,rcom_set hZ8 (by omega) hown8 hEv hEl hEm⟩
  case rest=>
   obtain ⟨B10,A8,c8,rfl,HR⟩:=hcut
   have c0:=HR.out.box.c0
   have c1:=HR.out.box.c1
   have e2:=HR.out.box.c2
   by_cases hz : vz = 0
   ·subst hz
    have hv3 : Hid (v = false):=hv2.out
    go_wp2_with (go_at_call 42;refine (KV.out A2 c2 A8 c8 _ (HS4.out.calm HR.out.calm).a HR.out.holes).mono ?_;rintro e w7 ⟨rfl,hc7⟩)
    go_ret
    exact ⟨ret_bool hv3.out.symm,HC.out.trans (HC4.out.trans (HR.out.calm.trans hc7))⟩
   ·have hv3 : Hid (v = true):=by
     show v = true
     rw [hv2.out]
     simpa using hz
    have hpos : (0 : Int) < (vz : Int):=by omega
    go_wp2_with (go_at_call 42;refine (KV.out A2 c2 A8 c8 _ (HS4.out.calm HR.out.calm).a HR.out.holes).mono ?_;rintro e w7 ⟨rfl,hc7⟩)
    go_ret
    exact ⟨ret_bool (by rw [hv3.out];simpa using hpos),HC.out.trans (HC4.out.trans (HR.out.calm.trans hc7))⟩
end Go.Proofs.YtnlnclefedohkaaGreatDoor
