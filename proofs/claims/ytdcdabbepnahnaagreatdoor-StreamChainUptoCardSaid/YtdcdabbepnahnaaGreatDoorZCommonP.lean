/- Walk: have two regions a path in common? -/
import Derived.Deep.DeepCutAuto
import Derived.Deep.RegionHeld3
import Derived.BigQuiet
import Derived.Test.YtdcdabbepnahnaaGreatDoorZMapV
import Derived.Test.YtdcdabbepnahnaaGreatDoorZWalkM
import Derived.Test.YtdcdabbepnahnaaGreatDoorZConcatP
set_option linter.unusedVariables false
set_option linter.unusedSimpArgs false
namespace Go.Proofs.YtdcdabbepnahnaaGreatDoor
open Go Go.RowKit Sy

theorem voidp_c (b : Pat) (hs : List Pat) (v : Bool) (n m : Nat) (re : Bool) (A : Option Addr) (c : Nat) (HA : Option Addr) (hc : Nat) (w : World) (h : StrsR w A b.parts) (h2 : PatsR w HA hs) (hv : (leastLen b hs == 0) = v) (hn : b.parts.length = n) (hm : hs.length = m) (hre : b.rest = re) :
  Calls Tryz.prog 76 #[.agg #[.slice A n c,.bool re],.slice HA m hc] w fun e w'=>e = .returned (.bool v) ∧ Calm w w':=by
 have:=void_c b hs A c HA hc w h h2
 unfold void at this
 subst hv hn hm hre
 exact this
structure CBox (w1 : World) (B : Nat) (A : Option Addr) (n c : Nat) (re : Bool) (HA : Option Addr) (m hc : Nat) (A' : Option Addr) (n' c' : Nat) (re' : Bool) (HA' : Option Addr) (m' hc' : Nat) : Prop where
 size : B + 2 ≤ w1.heap.size
 x0 : w1.cell? ⟨B,0,none⟩ = some (.slice A n c)
 x1 : w1.cell? ⟨B,1,none⟩ = some (.bool re)
 x2 : w1.cell? ⟨B,2,none⟩ = some (.slice HA m hc)
 y0 : w1.cell? ⟨B + 1,0,none⟩ = some (.slice A' n' c')
 y1 : w1.cell? ⟨B + 1,1,none⟩ = some (.bool re')
 y2 : w1.cell? ⟨B + 1,2,none⟩ = some (.slice HA' m' hc')
theorem CBox.calm {w1 w2 : World} {B : Nat} {A : Option Addr} {n c : Nat} {re : Bool} {HA : Option Addr} {m hc : Nat} {A' : Option Addr} {n' c' : Nat} {re' : Bool} {HA' : Option Addr} {m' hc' : Nat} (h : CBox w1 B A n c re HA m hc A' n' c' re' HA' m' hc') (hcm : Calm w1 w2) : CBox w2 B A n c re HA m hc A' n' c' re' HA' m' hc':=by
 have h0 : B < w1.heap.size:=by have:=h.size;omega
 have h1 : B + 1 < w1.heap.size:=by have:=h.size;omega
 exact ⟨Nat.le_trans h.size hcm.size,hcm.at_ h.x0 h0,hcm.at_ h.x1 h0,hcm.at_ h.x2 h0,hcm.at_ h.y0 h1,hcm.at_ h.y1 h1,hcm.at_ h.y2 h1⟩
set_option maxRecDepth 100000 in
set_option maxHeartbeats 8000000 in
theorem common_c (x y : Reg) (v : Bool) (n m n' m' : Nat) (re re' : Bool) (A : Option Addr) (c : Nat) (HA : Option Addr) (hc : Nat) (A' : Option Addr) (c' : Nat) (HA' : Option Addr) (hc' : Nat) (w : World) (h : PatA w A c x.b) (hh : PatsR w HA x.hs) (h' : PatA w A' c' y.b) (hh' : PatsR w HA' y.hs) (gx : patErr x.b = 0) (gy : patErr y.b = 0) (hv : commonG x y = v)
  (hn : x.b.parts.length = n) (hm : x.hs.length = m) (hre : x.b.rest = re) (hn' : y.b.parts.length = n') (hm' : y.hs.length = m') (hre' : y.b.rest = re') (hl : m + m' ≤ 16384) :
  Calls Tryz.prog 34 #[.agg #[.slice A n c,.bool re,.slice HA m hc],.agg #[.slice A' n' c',.bool re',.slice HA' m' hc']] w fun e w'=>e = .returned (.bool v) ∧ Calm w w':=by
 obtain ⟨w1,hw1⟩ : ∃ w1,w1 = (w.alloc (.cells #[.slice A n c,.bool re,.slice HA m hc] 67)).alloc (.cells #[.slice A' n' c',.bool re',.slice HA' m' hc'] 67):=⟨_,rfl⟩
 have hc1 : Calm w w1:=by rw [hw1];exact ((Calm.refl w).alloc _).alloc _
 have hbox : CBox w1 w.heap.size A n c re HA m hc A' n' c' re' HA' m' hc':=by
  rw [hw1]
  exact ⟨by simp,by simp [go_sem],by simp [go_sem],by simp [go_sem],by simp [go_sem],by simp [go_sem],by simp [go_sem]⟩
 have HX:=Lib.hid (And.intro (h.calm hc1) (hh.calm hc1))
 have HY:=Lib.hid (And.intro (h'.calm hc1) (hh'.calm hc1))
 have HN:=Lib.hid (And.intro hn (And.intro hm hre))
 have HN':=Lib.hid (And.intro hn' (And.intro hm' hre'))
 have HW:=Lib.hid hw1
 have HC:=Lib.hid hc1
 have HB:=Lib.hid hbox
 have x0:=hbox.x0
 have x1:=hbox.x1
 have y0:=hbox.y0
 have y1:=hbox.y1
 clear hbox hc1 h hh h' hh' hn hm hre hn' hm' hre'
 unfold commonG at hv
 rcases hmt : meetP x.b y.b with _ | mm
 ·rw [hmt] at hv
  have hv2 : Hid (v = false):=hv.symm
  have KM : Hid (∀ W,Calm w1 W → Calls Tryz.prog 75 #[.agg #[.slice A n c,.bool re],.agg #[.slice A' n' c',.bool re']] W fun e w'=>e = .returned (.tuple #[.agg #[.slice none 0 0,.bool false],.bool false]) ∧ Calm W w'):=fun W hW=>by
   have:=meet_no x.b y.b A A' c c' W (HX.out.1.calm hW) (HY.out.1.calm hW) gx gy hmt
   rw [HN.out.1,HN.out.2.2,HN'.out.1,HN'.out.2.2] at this
   exact this
  clear gx gy hmt hv hw1
  go_enter Tryz.func34,Tryz.ntmps34
  rw [HW.out] at x0 x1 y0 y1
  go_wp2_with fail
  rw [← HW.out]
  refine (KM.out w1 (Calm.refl _)).mono ?_
  rintro e w3 ⟨rfl,hc3⟩
  go_wp2_with fail
  go_cut [4] (fun s wx=>s = .bool false ∧ Hid (Calm w3 wx))
  case first=>
   go_quiet (fail)
   all_goals
    go_wp2_with fail
    go_meet
    case rel=>
     first
      |exact ⟨rfl,Lib.hid (((Calm.refl _).alloc _).drewN _)⟩
      |exact ⟨rfl,Lib.hid ((Calm.refl _).alloc _)⟩
  case rest=>
   obtain ⟨rfl,HR⟩:=hcut
   go_wp2_with fail
   go_ret
   exact ⟨ret_bool hv2.out.symm,HC.out.trans (hc3.trans HR.out)⟩
 ·rw [hmt] at hv
  simp only at hv
  obtain ⟨vz,hvz⟩ : ∃ vz,(leastLen mm (x.hs ++ y.hs) == 0) = vz:=⟨_,rfl⟩
  have hv2 : Hid (v = !vz):=by
   show _ = _
   rw [← hv,← hvz]
   rfl
  obtain ⟨N,hN⟩ : ∃ N,(x.hs ++ y.hs).length = N:=⟨_,rfl⟩
  obtain ⟨gn,hgn⟩ : ∃ gn,mm.parts.length = gn:=⟨_,rfl⟩
  obtain ⟨gr,hgr⟩ : ∃ gr,mm.rest = gr:=⟨_,rfl⟩
  have KM : Hid (∀ W,Calm w1 W → Calls Tryz.prog 75 #[.agg #[.slice A n c,.bool re],.agg #[.slice A' n' c',.bool re']] W fun e w'=>(∃ A2 c2,e = .returned (.tuple #[.agg #[.slice A2 gn c2,.bool gr],.bool true]) ∧ SmallN w' W.heap.size ⟨A2,c2,mm⟩) ∧ Calm W w'):=fun W hW=>by
   have:=meet_yes x.b y.b mm A A' c c' W (HX.out.1.calm hW) (HY.out.1.calm hW) gx gy hmt
   rw [HN.out.1,HN.out.2.2,HN'.out.1,HN'.out.2.2,hgn,hgr] at this
   exact this
  have KV : Hid (∀ A2 c2 AC cC W,PatA W A2 c2 mm → PatsR W AC (x.hs ++ y.hs) → Calls Tryz.prog 76 #[.agg #[.slice A2 gn c2,.bool gr],.slice AC N cC] W fun e w'=>e = .returned (.bool vz) ∧ Calm W w'):=fun A2 c2 AC cC W h1 h2=>
   voidp_c mm (x.hs ++ y.hs) vz gn N gr A2 c2 AC cC W h1.r h2 hvz hgn hN hgr
  have HNN:=Lib.hid hN
  clear gx gy hmt hv hw1 hvz hgn hgr hN
  go_enter Tryz.func34,Tryz.ntmps34
  rw [HW.out] at x0 x1 y0 y1
  go_wp2_with fail
  rw [← HW.out]
  refine (KM.out w1 (Calm.refl _)).mono ?_
  rintro e w3 ⟨⟨A2,c2,rfl,hs3⟩,hc3⟩
  clear x0 x1 y0 y1
  go_upto_region 2 with (fail)
  obtain ⟨w4,hw4⟩ : ∃ w4,w4 = w3.alloc (.cells #[.slice A2 gn c2,.bool gr] 51):=⟨_,rfl⟩
  rw [← hw4]
  have hc4 : Calm w3 w4:=by rw [hw4];exact (Calm.refl w3).alloc _
  have t0 : w4.cell? ⟨w3.heap.size,0,none⟩ = some (.slice A2 gn c2):=by rw [hw4];simp [go_sem]
  have t1 : w4.cell? ⟨w3.heap.size,1,none⟩ = some (.bool gr):=by rw [hw4];simp [go_sem]
  have tlt : w3.heap.size < w4.heap.size:=by rw [hw4];simp [go_sem]
  have HC4:=Lib.hid (hc3.trans hc4)
  have HS4:=Lib.hid (hs3.calm hc4)
  have hBx:=HB.out.calm HC4.out
  have HSX : Hid (∀ W,Calm w4 W → W.cell? ⟨w3.heap.size,0,none⟩ = some (.slice A2 gn c2) ∧ W.cell? ⟨w3.heap.size,1,none⟩ = some (.bool gr) ∧ W.cell? ⟨w.heap.size,2,none⟩ = some (.slice HA m hc) ∧ W.cell? ⟨w.heap.size + 1,2,none⟩ = some (.slice HA' m' hc')):=fun W hW=>
   ⟨Calm.at_ hW t0 tlt,Calm.at_ hW t1 tlt,Calm.at_ hW hBx.x2 (by have:=hBx.size;omega),Calm.at_ hW hBx.y2 (by have:=hBx.size;omega)⟩
  have KCat : Hid (∀ W gg,Calm w4 W → W.cell? ⟨gg,0,none⟩ = some (.slice HA m hc) → W.cell? ⟨gg,1,none⟩ = some (.slice HA' m' hc') → gg < W.heap.size → Calls Tryz.prog 77 #[.slice (some ⟨gg,0,none⟩) 2 2] W fun e w'=>(∃ AC cC,e = .returned (.slice AC N cC) ∧ PatsR w' AC (x.hs ++ y.hs)) ∧ Calm W w'):=fun W gg hW k0 k1 hgg=>by
   have:=concat_c x.hs y.hs HA HA' m m' hc hc' gg 2 W (HX.out.2.calm (HC4.out.trans hW)) (HY.out.2.calm (HC4.out.trans hW)) HN.out.2.1 HN'.out.2.1 hl k0 k1 hgg
   unfold CatEnd at this
   rw [HNN.out] at this
   exact this
  clear hw4 hc3 hc4 hs3 t0 t1 tlt hBx KM
  go_cut [4] (fun s wx=>s = .bool (!vz) ∧ Hid (Calm w4 wx))
  case first=>
   go_region_held3 (fun W=>W.cell? ⟨w3.heap.size,0,none⟩ = some (.slice A2 gn c2) ∧ W.cell? ⟨w3.heap.size,1,none⟩ = some (.bool gr) ∧ W.cell? ⟨w.heap.size,2,none⟩ = some (.slice HA m hc) ∧ W.cell? ⟨w.heap.size + 1,2,none⟩ = some (.slice HA' m' hc'))
    (first
     |with_reducible exact HSX.out _ hcy
     |with_reducible exact HSX.out _ (hcy.alloc _)
     |with_reducible exact HSX.out _ hcx
     |with_reducible exact HSX.out _ (Calm.refl _)
     |with_reducible exact HSX.out _ (Below.drew (Calm.refl _))
     |with_reducible exact HSX.out _ (Below.drew ((Calm.refl _).alloc _))
     |with_reducible exact HSX.out _ ((Calm.refl _).alloc _)
     |go_keep)
    (first
     |(go_at_call 77;refine (KCat.out _ _ (by first | exact Below.drew ((Calm.refl _).alloc _) | exact (Calm.refl _).alloc _ | exact Below.drew (Calm.refl _)) (by simp [go_sem]) (by simp [go_sem]) (by simp [go_sem])).mono ?_;rintro e w6 ⟨⟨AC,cC,rfl,hP6⟩,hcC⟩;have hcx : Calm w4 w6:=Calm.trans (by first | exact Below.drew ((Calm.refl _).alloc _) | exact (Calm.refl _).alloc _ | exact Below.drew (Calm.refl _)) hcC)
     |(go_at_call 76;refine (KV.out A2 c2 AC cC _ (HS4.out.calm hcx).a hP6).mono ?_;rintro e w7 ⟨rfl,hc7⟩;have hcy : Calm w4 w7:=hcx.trans hc7))
   all_goals
    go_wp2_with fail
    go_meet
    case rel=>exact ⟨rfl,Lib.hid hcy⟩
  case rest=>
   obtain ⟨rfl,HR⟩:=hcut
   go_wp2_with fail
   go_ret
   exact ⟨ret_bool hv2.out.symm,HC.out.trans (HC4.out.trans HR.out)⟩
end Go.Proofs.YtdcdabbepnahnaaGreatDoor
