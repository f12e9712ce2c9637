/- Walk: mapping.reduce, both cases. -/
import Derived.Deep.DeepCutAuto
import Derived.Deep.RegionHeld3
import Derived.BigQuiet
import Derived.Test.YtnlnclefedohkaaGreatDoorZWalkK
import Derived.Test.YtnlnclefedohkaaGreatDoorZMapL
import Derived.Test.YtnlnclefedohkaaGreatDoorZConcatP
import Derived.Test.YtnlnclefedohkaaGreatDoorZColE
import Derived.Test.YtnlnclefedohkaaGreatDoorZRed3W
import Derived.Test.YtnlnclefedohkaaGreatDoorZPutA
set_option linter.unusedVariables false
set_option linter.unusedSimpArgs false
namespace Go.Proofs.YtnlnclefedohkaaGreatDoor
open Go Go.RowKit Sy

theorem llen_v (b : Pat) (hs : List Pat) (n : Nat) (A : Option Addr) (c : Nat) (HA : Option Addr) (hc : Nat) (w : World) (hv : leastLen b hs = n) (hb : StrsR w A b.parts) (hh : PatsR w HA hs) :
  Calls Tryz.prog 105 #[.agg #[.slice A b.parts.length c,.bool b.rest],.slice HA hs.length hc] w fun e w'=>e = .returned (.int .i64 n) ∧ Calm w w':=hv ▸ llen_c b hs A c HA hc w hb hh
theorem pAt_len {w : World} {A : Option Addr} {b : Pat} {i : Nat} (h : StrsR w A b.parts) : (pAt b i).length ≤ 16384:=by
 rcases Nat.lt_or_ge i b.parts.length with hkb | hkb
 ·have : pAt b i = b.parts[i]:=by simp [pAt,List.getD_eq_getElem?_getD,List.getElem?_eq_getElem hkb]
  rw [this];exact h.each _ (List.getElem_mem hkb)
 ·rw [pAt_out hkb];simp
def void (b : Pat) (hs : List Pat) : Bool:=leastLen b hs == 0
set_option maxHeartbeats 400000 in
theorem void_c (b : Pat) (hs : List Pat) (A : Option Addr) (c : Nat) (HA : Option Addr) (hc : Nat) (w : World) (hb : StrsR w A b.parts) (hh : PatsR w HA hs) :
  Calls Tryz.prog 69 #[.agg #[.slice A b.parts.length c,.bool b.rest],.slice HA hs.length hc] w fun e w'=>e = .returned (.bool (void b hs)) ∧ Calm w w':=by
 obtain ⟨n,hn⟩ : ∃ n,leastLen b hs = n:=⟨_,rfl⟩
 obtain ⟨w1,hw1⟩ : ∃ w1,w1 = w.alloc (.cells #[.slice A b.parts.length c,.bool b.rest] 40):=⟨_,rfl⟩
 have hc1 : Calm w w1:=by rw [hw1];exact (Calm.refl w).alloc _
 have hcall:=llen_v b hs n A c HA hc w1 hn (hb.calm hc1) (hh.calm hc1)
 have hv : Hid (void b hs = ((n : Int) == 0)):=by
  show void b hs = _
  rw [void,hn,Bool.eq_iff_iff]
  simp
 have HW:=Lib.hid hw1
 have HC:=Lib.hid hc1
 clear hn hw1 hc1 hb hh
 go_enter Tryz.func69,Tryz.ntmps69
 go_wp2_with (go_at_call 105;rw [← HW.out];refine hcall.mono ?_;rintro e w2 ⟨rfl,hc2⟩)
 go_ret
 exact ⟨ret_bool (by rw [hv.out]),HC.out.trans hc2⟩

end Go.Proofs.YtnlnclefedohkaaGreatDoor
set_option linter.unusedVariables false
set_option linter.unusedSimpArgs false
namespace Go.Proofs.YtnlnclefedohkaaGreatDoor
open Go Go.RowKit Sy

theorem voidp_c (b : Pat) (hs : List Pat) (v : Bool) (n m : Nat) (re : Bool) (A : Option Addr) (c : Nat) (HA : Option Addr) (hc : Nat) (w : World) (h : StrsR w A b.parts) (h2 : PatsR w HA hs) (hv : (leastLen b hs == 0) = v) (hn : b.parts.length = n) (hm : hs.length = m) (hre : b.rest = re) :
  Calls Tryz.prog 69 #[.agg #[.slice A n c,.bool re],.slice HA m hc] w fun e w'=>e = .returned (.bool v) ∧ Calm w w':=by
 have:=void_c b hs A c HA hc w h h2
 unfold void at this
 subst hv hn hm hre
 exact this
structure CBox (w1 : World) (B : Nat) (A : Option Addr) (n c : Nat) (re : Bool) (HA : Option Addr) (m hc : Nat) (A' : Option Addr) (n' c' : Nat) (re' : Bool) (HA' : Option Addr) (m' hc' : Nat) : Prop where
 size : B + 2 ≤ w1.heap.size
 x0 : w1.cell? ⟨B,0,none⟩ = some (.slice A n c)
 x1 : w1.cell? ⟨B,1,none⟩ = some (.bool re)
 x2 : w1.cell? ⟨B,2,none⟩ = some (.slice HA m hc)
 y0 : w1.cell? ⟨B + 1,0,none⟩ = some (.slice A' n' c')
 y1 : w1.cell? ⟨B + 1,1,none⟩ = some (.bool re')
 y2 : w1.cell? ⟨B + 1,2,none⟩ = some (.slice HA' m' hc')
theorem CBox.calm {w1 w2 : World} {B : Nat} {A : Option Addr} {n c : Nat} {re : Bool} {HA : Option Addr} {m hc : Nat} {A' : Option Addr} {n' c' : Nat} {re' : Bool} {HA' : Option Addr} {m' hc' : Nat} (h : CBox w1 B A n c re HA m hc A' n' c' re' HA' m' hc') (hcm : Calm w1 w2) : CBox w2 B A n c re HA m hc A' n' c' re' HA' m' hc':=by
 have h0 : B < w1.heap.size:=by have:=h.size;omega
 have h1 : B + 1 < w1.heap.size:=by have:=h.size;omega
 exact ⟨Nat.le_trans h.size hcm.size,hcm.at_ h.x0 h0,hcm.at_ h.x1 h0,hcm.at_ h.x2 h0,hcm.at_ h.y0 h1,hcm.at_ h.y1 h1,hcm.at_ h.y2 h1⟩
set_option maxRecDepth 100000 in
set_option maxHeartbeats 8000000 in
theorem common_c (x y : Reg) (v : Bool) (n m n' m' : Nat) (re re' : Bool) (A : Option Addr) (c : Nat) (HA : Option Addr) (hc : Nat) (A' : Option Addr) (c' : Nat) (HA' : Option Addr) (hc' : Nat) (w : World) (h : PatA w A c x.b) (hh : PatsR w HA x.hs) (h' : PatA w A' c' y.b) (hh' : PatsR w HA' y.hs) (gx : patErr x.b = 0) (gy : patErr y.b = 0) (hv : commonG x y = v)
  (hn : x.b.parts.length = n) (hm : x.hs.length = m) (hre : x.b.rest = re) (hn' : y.b.parts.length = n') (hm' : y.hs.length = m') (hre' : y.b.rest = re') (hl : m + m' ≤ 16384) :
  Calls Tryz.prog 86 #[.agg #[.slice A n c,.bool re,.slice HA m hc],.agg #[.slice A' n' c',.bool re',.slice HA' m' hc']] w fun e w'=>e = .returned (.bool v) ∧ Calm w w':=by
 obtain ⟨w1,hw1⟩ : ∃ w1,w1 = (w.alloc (.cells #[.slice A n c,.bool re,.slice HA m hc] 68)).alloc (.cells #[.slice A' n' c',.bool re',.slice HA' m' hc'] 68):=⟨_,rfl⟩
 have hc1 : Calm w w1:=by rw [hw1];exact ((Calm.refl w).alloc _).alloc _
 have hbox : CBox w1 w.heap.size A n c re HA m hc A' n' c' re' HA' m' hc':=by
  rw [hw1]
  exact ⟨by simp,by simp [go_sem],by simp [go_sem],by simp [go_sem],by simp [go_sem],by simp [go_sem],by simp [go_sem]⟩
 have HX:=Lib.hid (And.intro (h.calm hc1) (hh.calm hc1))
 have HY:=Lib.hid (And.intro (h'.calm hc1) (hh'.calm hc1))
 have HN:=Lib.hid (And.intro hn (And.intro hm hre))
 have HN':=Lib.hid (And.intro hn' (And.intro hm' hre'))
 have HW:=Lib.hid hw1
 have HC:=Lib.hid hc1
 have HB:=Lib.hid hbox
 have x0:=hbox.x0
 have x1:=hbox.x1
 have y0:=hbox.y0
 have y1:=hbox.y1
 clear hbox hc1 h hh h' hh' hn hm hre hn' hm' hre'
 unfold commonG at hv
 rcases hmt : meetP x.b y.b with _ | mm
 ·rw [hmt] at hv
  have hv2 : Hid (v = false):=hv.symm
  have KM : Hid (∀ W,Calm w1 W → Calls Tryz.prog 34 #[.agg #[.slice A n c,.bool re],.agg #[.slice A' n' c',.bool re']] W fun e w'=>e = .returned (.tuple #[.agg #[.slice none 0 0,.bool false],.bool false]) ∧ Calm W w'):=fun W hW=>by
   have:=meet_no x.b y.b A A' c c' W (HX.out.1.calm hW) (HY.out.1.calm hW) gx gy hmt
   rw [HN.out.1,HN.out.2.2,HN'.out.1,HN'.out.2.2] at this
   exact this
  clear gx gy hmt hv hw1
  go_enter Tryz.func86,Tryz.ntmps86
  rw [HW.out] at x0 x1 y0 y1
  go_wp2_with fail
  rw [← HW.out]
  refine (KM.out w1 (Calm.refl _)).mono ?_
  rintro e w3 ⟨rfl,hc3⟩
  go_wp2_with fail
  go_cut [4] (fun s wx=>s = .bool false ∧ Hid (Calm w3 wx))
  case first=>
   go_quiet (fail)
   all_goals
    go_wp2_with fail
    go_meet
    case rel=>
     first
      |exact ⟨rfl,Lib.hid (((Calm.refl _).alloc _).drewN _)⟩
      |exact ⟨rfl,Lib.hid ((Calm.refl _).alloc _)⟩
  case rest=>
   obtain ⟨rfl,HR⟩:=hcut
   go_wp2_with fail
   go_ret
   exact ⟨ret_bool hv2.out.symm,HC.out.trans (hc3.trans HR.out)⟩
 ·rw [hmt] at hv
  simp only at hv
  obtain ⟨vz,hvz⟩ : ∃ vz,(leastLen mm (x.hs ++ y.hs) == 0) = vz:=⟨_,rfl⟩
  have hv2 : Hid (v = !vz):=by
   show _ = _
   rw [← hv,← hvz]
   rfl
  obtain ⟨N,hN⟩ : ∃ N,(x.hs ++ y.hs).length = N:=⟨_,rfl⟩
  obtain ⟨gn,hgn⟩ : ∃ gn,mm.parts.length = gn:=⟨_,rfl⟩
  obtain ⟨gr,hgr⟩ : ∃ gr,mm.rest = gr:=⟨_,rfl⟩
  have KM : Hid (∀ W,Calm w1 W → Calls Tryz.prog 34 #[.agg #[.slice A n c,.bool re],.agg #[.slice A' n' c',.bool re']] W fun e w'=>(∃ A2 c2,e = .returned (.tuple #[.agg #[.slice A2 gn c2,.bool gr],.bool true]) ∧ SmallN w' W.heap.size ⟨A2,c2,mm⟩) ∧ Calm W w'):=fun W hW=>by
   have:=meet_yes x.b y.b mm A A' c c' W (HX.out.1.calm hW) (HY.out.1.calm hW) gx gy hmt
   rw [HN.out.1,HN.out.2.2,HN'.out.1,HN'.out.2.2,hgn,hgr] at this
   exact this
  have KV : Hid (∀ A2 c2 AC cC W,PatA W A2 c2 mm → PatsR W AC (x.hs ++ y.hs) → Calls Tryz.prog 69 #[.agg #[.slice A2 gn c2,.bool gr],.slice AC N cC] W fun e w'=>e = .returned (.bool vz) ∧ Calm W w'):=fun A2 c2 AC cC W h1 h2=>
   voidp_c mm (x.hs ++ y.hs) vz gn N gr A2 c2 AC cC W h1.r h2 hvz hgn hN hgr
  have HNN:=Lib.hid hN
  clear gx gy hmt hv hw1 hvz hgn hgr hN
  go_enter Tryz.func86,Tryz.ntmps86
  rw [HW.out] at x0 x1 y0 y1
  go_wp2_with fail
  rw [← HW.out]
  refine (KM.out w1 (Calm.refl _)).mono ?_
  rintro e w3 ⟨⟨A2,c2,rfl,hs3⟩,hc3⟩
  clear x0 x1 y0 y1
  go_upto_region 2 with (fail)
  obtain ⟨w4,hw4⟩ : ∃ w4,w4 = w3.alloc (.cells #[.slice A2 gn c2,.bool gr] 40):=⟨_,rfl⟩
  rw [← hw4]
  have hc4 : Calm w3 w4:=by rw [hw4];exact (Calm.refl w3).alloc _
  have t0 : w4.cell? ⟨w3.heap.size,0,none⟩ = some (.slice A2 gn c2):=by rw [hw4];simp [go_sem]
  have t1 : w4.cell? ⟨w3.heap.size,1,none⟩ = some (.bool gr):=by rw [hw4];simp [go_sem]
  have tlt : w3.heap.size < w4.heap.size:=by rw [hw4];simp [go_sem]
  have HC4:=Lib.hid (hc3.trans hc4)
  have HS4:=Lib.hid (hs3.calm hc4)
  have hBx:=HB.out.calm HC4.out
  have HSX : Hid (∀ W,Calm w4 W → W.cell? ⟨w3.heap.size,0,none⟩ = some (.slice A2 gn c2) ∧ W.cell? ⟨w3.heap.size,1,none⟩ = some (.bool gr) ∧ W.cell? ⟨w.heap.size,2,none⟩ = some (.slice HA m hc) ∧ W.cell? ⟨w.heap.size + 1,2,none⟩ = some (.slice HA' m' hc')):=fun W hW=>
   ⟨Calm.at_ hW t0 tlt,Calm.at_ hW t1 tlt,Calm.at_ hW hBx.x2 (by have:=hBx.size;omega),Calm.at_ hW hBx.y2 (by have:=hBx.size;omega)⟩
  have KCat : Hid (∀ W gg,Calm w4 W → W.cell? ⟨gg,0,none⟩ = some (.slice HA m hc) → W.cell? ⟨gg,1,none⟩ = some (.slice HA' m' hc') → gg < W.heap.size → Calls Tryz.prog 36 #[.slice (some ⟨gg,0,none⟩) 2 2] W fun e w'=>(∃ AC cC,e = .returned (.slice AC N cC) ∧ PatsR w' AC (x.hs ++ y.hs)) ∧ Calm W w'):=fun W gg hW k0 k1 hgg=>by
   have:=concat_c x.hs y.hs HA HA' m m' hc hc' gg 2 W (HX.out.2.calm (HC4.out.trans hW)) (HY.out.2.calm (HC4.out.trans hW)) HN.out.2.1 HN'.out.2.1 hl k0 k1 hgg
   unfold CatEnd at this
   rw [HNN.out] at this
   exact this
  clear hw4 hc3 hc4 hs3 t0 t1 tlt hBx KM
  go_cut [4] (fun s wx=>s = .bool (!vz) ∧ Hid (Calm w4 wx))
  case first=>
   go_region_held3 (fun W=>W.cell? ⟨w3.heap.size,0,none⟩ = some (.slice A2 gn c2) ∧ W.cell? ⟨w3.heap.size,1,none⟩ = some (.bool gr) ∧ W.cell? ⟨w.heap.size,2,none⟩ = some (.slice HA m hc) ∧ W.cell? ⟨w.heap.size + 1,2,none⟩ = some (.slice HA' m' hc'))
    (first
     |with_reducible exact HSX.out _ hcy
     |with_reducible exact HSX.out _ (hcy.alloc _)
     |with_reducible exact HSX.out _ hcx
     |with_reducible exact HSX.out _ (Calm.refl _)
     |with_reducible exact HSX.out _ (Below.drew (Calm.refl _))
     |with_reducible exact HSX.out _ (Below.drew ((Calm.refl _).alloc _))
     |with_reducible exact HSX.out _ ((Calm.refl _).alloc _)
     |go_keep)
    (first
     |(go_at_call 36;refine (KCat.out _ _ (by first | exact Below.drew ((Calm.refl _).alloc _) | exact (Calm.refl _).alloc _ | exact Below.drew (Calm.refl _)) (by simp [go_sem]) (by simp [go_sem]) (by simp [go_sem])).mono ?_;rintro e w6 ⟨⟨AC,cC,rfl,hP6⟩,hcC⟩;have hcx : Calm w4 w6:=Calm.trans (by first | exact Below.drew ((Calm.refl _).alloc _) | exact (Calm.refl _).alloc _ | exact Below.drew (Calm.refl _)) hcC)
     |(go_at_call 69;refine (KV.out A2 c2 AC cC _ (HS4.out.calm hcx).a hP6).mono ?_;rintro e w7 ⟨rfl,hc7⟩;have hcy : Calm w4 w7:=hcx.trans hc7))
   all_goals
    go_wp2_with fail
    go_meet
    case rel=>exact ⟨rfl,Lib.hid hcy⟩
  case rest=>
   obtain ⟨rfl,HR⟩:=hcut
   go_wp2_with fail
   go_ret
   exact ⟨ret_bool hv2.out.symm,HC.out.trans (HC4.out.trans HR.out)⟩
end Go.Proofs.YtnlnclefedohkaaGreatDoor
set_option linter.unusedVariables false
set_option linter.unusedSimpArgs false
namespace Go.Proofs.YtnlnclefedohkaaGreatDoor
open Go Go.RowKit Sy

theorem results_cell_tmpsM {fn : Func} {p q r : Tmp} {ty : TypeId} (h : fn.results = #[.cell p ty,.tmp q,.tmp r]) (tmps : Array Value) (P : Program) (w : World) :
  (results fn tmps).run P w = ((asAddr (tmps.getD p undef)).run P w).andThen fun a w₁=>((loadVar ty a).run P w₁).andThen fun v w₂=>.ok (.tuple #[v,tmps.getD q undef,tmps.getD r undef]) w₂:=by
 simp only [results,h]
 simp [Sem.run_bind,Result.andThen]
set_option maxHeartbeats 8000000 in
theorem mreduce_far (b : Pat) (ps : List Pat) (A : Option Addr) (c : Nat) (PA : Option Addr) (n N pc gm : Nat) (re : Bool) (w : World) (hb : PatA w A c b) (hps : PatsR w PA ps) (hn : b.parts.length = n) (hre : b.rest = re) (hN : ps.length = N) (gb : patErr b = 0) (gp : ∀ p ∈ ps,patErr p = 0) (hgm : (redL b ps).length = gm) (h64 : 64 < gm) :
  Calls Tryz.prog 35 #[.agg #[.slice A n c,.bool re],.slice PA N pc] w fun e w'=>e = .returned (.tuple #[.agg #[.slice none 0 0,.bool false,.slice none 0 0],.bool false,.int .i64 72]) ∧ Calm w w':=by
 obtain ⟨w1,hw1⟩ : ∃ w1,w1 = (w.alloc (.cells #[.slice A n c,.bool re] 40)).alloc (.cells #[.slice none 0 0,.bool false,.slice none 0 0] 68):=⟨_,rfl⟩
 have hc1 : Calm w w1:=by rw [hw1];exact ((Calm.refl w).alloc _).alloc _
 have hz : ThreeB w1 (w.heap.size + 1) (.slice none 0 0) (.bool false) (.slice none 0 0):=by
  rw [hw1]
  have:=ThreeB.new (w.alloc (.cells #[.slice A n c,.bool re] 40)) (.slice none 0 0) (.bool false) (.slice none 0 0) 68
  simpa using this
 have hN2 : gm ≤ N:=by rw [← hgm,← hN];exact redL_len _ _
 have KR : Hid (∀ W,Calm w1 W → Calls Tryz.prog 68 #[.agg #[.slice A n c,.bool re],.slice PA N pc] W fun e w'=>(∃ A2 c2 HA2 hc2,e = .returned (.agg #[.slice A2 n c2,.bool re,.slice HA2 gm hc2])) ∧ Calm W w'):=fun W hW=>by
  have:=reduce_c b ps A c PA N pc W (hb.calm (hc1.trans hW)) (hps.calm (hc1.trans hW)) hN gb gp
  unfold RedEnd at this
  rw [hn,hre,hgm] at this
  exact this.mono fun e w' ⟨⟨A2,c2,HA2,hc2,h1,_,_⟩,h2⟩=>⟨⟨A2,c2,HA2,hc2,h1⟩,h2⟩
 have HW:=Lib.hid hw1
 have HC:=Lib.hid hc1
 have HZ:=Lib.hid hz
 have hgi : (64 : Int) < (gm : Int):=by omega
 clear hw1 hc1 hz hb hps hn hre hN gb gp hgm
 go_enter Tryz.func35,Tryz.ntmps35
 go_wp2_with fail
 rw [← HW.out]
 refine (KR.out w1 (Calm.refl _)).mono ?_
 rintro e w3 ⟨⟨A2,c2,HA2,hc2,rfl⟩,hc3⟩
 have h3:=HZ.out.calm hc3
 have z0:=h3.c0
 have z1:=h3.c1
 have z2:=h3.c2
 have f0:=h3.fz 0
 have f1:=h3.fz 1
 have f2:=h3.fz 2
 have hlt:=h3.lt
 go_wp2_with fail
 refine bodyPost_ret (v:=.tuple #[.agg #[.slice none 0 0,.bool false,.slice none 0 0],.bool false,.int .i64 72]) ?_ rfl ⟨rfl,by first | exact (calm3' (HC.out.trans hc3) (by omega) _ _ _).alloc _ | exact calm3' ((HC.out.trans hc3).alloc _) (by omega) _ _ _⟩
 rw [results_cell_tmpsM rfl]
 go_simp
end Go.Proofs.YtnlnclefedohkaaGreatDoor
set_option linter.unusedVariables false
set_option linter.unusedSimpArgs false
namespace Go.Proofs.YtnlnclefedohkaaGreatDoor
open Go Go.RowKit Sy

set_option maxHeartbeats 8000000 in
theorem mreduce_near (b : Pat) (ps : List Pat) (A : Option Addr) (c : Nat) (PA : Option Addr) (n N pc gm : Nat) (re vz : Bool) (w : World) (hb : PatA w A c b) (hps : PatsR w PA ps) (hn : b.parts.length = n) (hre : b.rest = re) (hN : ps.length = N) (gb : patErr b = 0) (gp : ∀ p ∈ ps,patErr p = 0) (hgm : (redL b ps).length = gm) (h64 : ¬ 64 < gm) (hvz : (leastLen b (redL b ps) == 0) = vz) :
  Calls Tryz.prog 35 #[.agg #[.slice A n c,.bool re],.slice PA N pc] w fun e w'=>(∃ A2 c2 HA2 hc2,e = .returned (.tuple #[.agg #[.slice A2 n c2,.bool re,.slice HA2 gm hc2],.bool (!vz),.int .i64 0]) ∧ NewS w' w.heap.size A2 c2 b.parts ∧ PatsN w' w.heap.size HA2 hc2 (redL b ps)) ∧ Calm w w':=by
 obtain ⟨w1,hw1⟩ : ∃ w1,w1 = (w.alloc (.cells #[.slice A n c,.bool re] 40)).alloc (.cells #[.slice none 0 0,.bool false,.slice none 0 0] 68):=⟨_,rfl⟩
 have hc1 : Calm w w1:=by rw [hw1];exact ((Calm.refl w).alloc _).alloc _
 obtain ⟨R,hR⟩ : ∃ R,w.heap.size + 1 = R:=⟨_,rfl⟩
 have hz : RgB w1 R (.slice none 0 0) (.bool false) (.slice none 0 0):=by
  rw [hw1,← hR]
  have:=RgB.new (w.alloc (.cells #[.slice A n c,.bool re] 40)) (.slice none 0 0) (.bool false) (.slice none 0 0)
  simpa using this
 have hRw : w.heap.size ≤ R:=by omega
 have hR1 : w1.heap.size = R + 1:=by rw [hw1,← hR];simp [go_sem]
 have KR : Hid (∀ W,Calm w1 W → Calls Tryz.prog 68 #[.agg #[.slice A n c,.bool re],.slice PA N pc] W fun e w'=>(∃ A2 c2 HA2 hc2,e = .returned (.agg #[.slice A2 n c2,.bool re,.slice HA2 gm hc2]) ∧ NewS w' W.heap.size A2 c2 b.parts ∧ PatsN w' W.heap.size HA2 hc2 (redL b ps)) ∧ Calm W w'):=fun W hW=>by
  have:=reduce_c b ps A c PA N pc W (hb.calm (hc1.trans hW)) (hps.calm (hc1.trans hW)) hN gb gp
  unfold RedEnd at this
  rw [hn,hre,hgm] at this
  exact this
 have KV : Hid (∀ W A2 c2 HA2 hc2,NewS W (R + 1) A2 c2 b.parts → PatsN W (R + 1) HA2 hc2 (redL b ps) → Calls Tryz.prog 69 #[.agg #[.slice A2 n c2,.bool re],.slice HA2 gm hc2] W fun e w'=>e = .returned (.bool vz) ∧ Calm W w'):=fun W A2 c2 HA2 hc2 h1 h2=>
  voidp_c b (redL b ps) vz n gm re A2 c2 HA2 hc2 W (h1.u.toR hb.r.len hb.r.each) (h2.reads (by omega)) hvz hn hgm hre
 have HW:=Lib.hid hw1
 have HC:=Lib.hid hc1
 have HZ:=Lib.hid hz
 have HR:=Lib.hid hR
 have HR1:=Lib.hid hR1
 obtain ⟨gs,hgs⟩ : ∃ gs,redL b ps = gs:=⟨_,rfl⟩
 rw [hgs] at KR KV ⊢
 obtain ⟨bp,hbp⟩ : ∃ bp,b.parts = bp:=⟨_,rfl⟩
 rw [hbp] at KR KV ⊢
 have hgi : ¬ (64 : Int) < (gm : Int):=by omega
 clear hw1 hc1 hz hb hps hn hre hN gb gp hgm hR hR1 hvz hgs hbp
 go_enter Tryz.func35,Tryz.ntmps35
 go_wp2_with fail
 rw [← HW.out,HR.out]
 refine (KR.out w1 (Calm.refl _)).mono ?_
 rintro e w3 ⟨⟨A2,c2,HA2,hc2,rfl,hS3,hP3⟩,hc3⟩
 obtain ⟨w4,hw4⟩ : ∃ w4,w4 = w3.alloc (.cells #[.slice A2 n c2,.bool re,.slice HA2 gm hc2] 68):=⟨_,rfl⟩
 have hc34 : Calm w3 w4:=by
  show Below _ _ _
  rw [hw4]
  exact (Calm.refl _).alloc _
 obtain ⟨G,hG⟩ : ∃ G,w3.heap.size = G:=⟨_,rfl⟩
 have hg4 : RgB w4 G (.slice A2 n c2) (.bool re) (.slice HA2 gm hc2):=by rw [hw4,← hG];exact RgB.new w3 _ _ _
 have hRG : R < G:=by have:=hc3.size;have:=HR1.out;omega
 have hS4 : Hid (NewS w4 (R + 1) A2 c2 bp):=(HR1.out ▸ hS3).calm hc34
 have hP4 : Hid (PatsN w4 (R + 1) HA2 hc2 gs):=(HR1.out ▸ hP3).calm hc34
 have HC4 : Hid (Calm w w4):=HC.out.trans (Calm.trans hc3 hc34)
 have HZ4 : Hid (RgB w4 R (.slice none 0 0) (.bool false) (.slice none 0 0)):=HZ.out.calm (Calm.trans hc3 hc34)
 have HG4:=Lib.hid hg4
 have HW4:=Lib.hid hw4
 have HGs:=Lib.hid hG
 have g0:=hg4.c0
 have g1:=hg4.c1
 have g2:=hg4.c2
 have z0:=HZ4.out.c0
 have z1:=HZ4.out.c1
 have z2:=HZ4.out.c2
 have f0:=HZ4.out.f 0
 have f1:=HZ4.out.f 1
 have f2:=HZ4.out.f 2
 have hne : ¬ G = R:=by omega
 have hne2 : ¬ R = G:=by omega
 clear hS3 hP3 hc3 hc34 hg4 hw4 hG
 go_wp2_with fail
 rw [← HW4.out,HGs.out]
 have HK : Hid (∀ W : World,Calm w4 W → W.cell? ⟨G,0,none⟩ = some (.slice A2 n c2) ∧ W.cell? ⟨G,1,none⟩ = some (.bool re) ∧ W.cell? ⟨G,2,none⟩ = some (.slice HA2 gm hc2)):=fun W hW=>⟨(HG4.out.calm hW).c0,(HG4.out.calm hW).c1,(HG4.out.calm hW).c2⟩
 have HSt : Hid (∀ W u0 u1 u2,Calm w4 W → (((W.setCell ⟨R,0,none⟩ u0).setCell ⟨R,1,none⟩ u1).setCell ⟨R,2,none⟩ u2).cell? ⟨G,0,none⟩ = some (.slice A2 n c2) ∧ (((W.setCell ⟨R,0,none⟩ u0).setCell ⟨R,1,none⟩ u1).setCell ⟨R,2,none⟩ u2).cell? ⟨G,1,none⟩ = some (.bool re) ∧ (((W.setCell ⟨R,0,none⟩ u0).setCell ⟨R,1,none⟩ u1).setCell ⟨R,2,none⟩ u2).cell? ⟨G,2,none⟩ = some (.slice HA2 gm hc2)):=fun W u0 u1 u2 hW=>by
  have h : RgB (((W.setCell ⟨R,0,none⟩ u0).setCell ⟨R,1,none⟩ u1).setCell ⟨R,2,none⟩ u2) G (.slice A2 n c2) (.bool re) (.slice HA2 gm hc2):=(HG4.out.calm hW).block (by simp [World.setCell,Array.getElem?_modify,hne,hne2])
  exact ⟨h.c0,h.c1,h.c2⟩
 have KV2 : Hid (∀ W,Calm w4 W → Calls Tryz.prog 69 #[.agg #[.slice A2 n c2,.bool re],.slice HA2 gm hc2] W fun e w'=>e = .returned (.bool vz) ∧ Calm w4 w'):=fun W hW=>(KV.out W _ _ _ _ (hS4.out.calm hW) (hP4.out.calm hW)).mono fun e w' ⟨h1,h2⟩=>⟨h1,hW.trans h2⟩
 have HEnd : Hid (∀ W u0 u1 u2,Calm w4 W → NewS (((W.setCell ⟨R,0,none⟩ u0).setCell ⟨R,1,none⟩ u1).setCell ⟨R,2,none⟩ u2) w.heap.size A2 c2 bp ∧ PatsN (((W.setCell ⟨R,0,none⟩ u0).setCell ⟨R,1,none⟩ u1).setCell ⟨R,2,none⟩ u2) w.heap.size HA2 hc2 gs ∧ Calm w (((W.setCell ⟨R,0,none⟩ u0).setCell ⟨R,1,none⟩ u1).setCell ⟨R,2,none⟩ u2)):=fun W u0 u1 u2 hW=>
  ⟨((hS4.out.calm hW).set3 (Nat.lt_succ_self R) _ _ _).mono (by omega),((hP4.out.calm hW).set3 (Nat.lt_succ_self R) _ _ _).mono (by omega),calm3' (HC4.out.trans hW) hRw _ _ _⟩
 go_region_held3 (fun W=>W.cell? ⟨G,0,none⟩ = some (.slice A2 n c2) ∧ W.cell? ⟨G,1,none⟩ = some (.bool re) ∧ W.cell? ⟨G,2,none⟩ = some (.slice HA2 gm hc2))
  (first
   |with_reducible exact HSt.out _ _ _ _ hc48
   |with_reducible exact HK.out _ hc48
   |with_reducible exact HK.out _ (Calm.refl _)
   |with_reducible exact HK.out _ (Below.drew (Calm.refl _))
   |go_keep)
  (first
   |(go_at_call 69;(first | refine (KV2.out _ (Below.drew (Calm.refl _))).mono ?_ | refine (KV2.out _ (Calm.refl _)).mono ?_);rintro e w8 ⟨rfl,hc48⟩;have hz8:=HZ4.out.calm hc48;have z0:=hz8.c0;have z1:=hz8.c1;have z2:=hz8.c2;have f0:=hz8.f 0;have f1:=hz8.f 1;have f2:=hz8.f 2))
 have HE:=Lib.hid (HEnd.out w8 (.slice A2 n c2) (.bool re) (.slice HA2 gm hc2) hc48)
 go_wp2_with fail
 refine bodyPost_ret (v:=.tuple #[.agg #[.slice A2 n c2,.bool re,.slice HA2 gm hc2],.bool (!vz),.int .i64 0]) ?_ rfl ⟨⟨A2,c2,HA2,hc2,rfl,HE.out.1,HE.out.2.1⟩,HE.out.2.2⟩
 rw [results_cell_tmpsM rfl]
 go_simp
end Go.Proofs.YtnlnclefedohkaaGreatDoor
set_option linter.unusedVariables false
set_option linter.unusedSimpArgs false
namespace Go.Proofs.YtnlnclefedohkaaGreatDoor
open Go Go.RowKit Sy

theorem mreduce_c (b : Pat) (ps : List Pat) (A : Option Addr) (c : Nat) (PA : Option Addr) (n N pc : Nat) (re : Bool) (w : World) (hb : PatA w A c b) (hps : PatsR w PA ps) (hn : b.parts.length = n) (hre : b.rest = re) (hN : ps.length = N) (gb : patErr b = 0) (gp : ∀ p ∈ ps,patErr p = 0) :
  Calls Tryz.prog 35 #[.agg #[.slice A n c,.bool re],.slice PA N pc] w fun e w'=>RdEnd b ps w.heap.size e w' ∧ Calm w w':=by
 unfold RdEnd
 by_cases h64 : 64 < (redL b ps).length
 ·refine (mreduce_far b ps A c PA n N pc _ re w hb hps hn hre hN gb gp rfl h64).mono ?_
  rintro e w' ⟨h1,h2⟩
  rw [if_pos h64]
  exact ⟨h1,h2⟩
 ·refine (mreduce_near b ps A c PA n N pc _ re _ w hb hps hn hre hN gb gp rfl h64 rfl).mono ?_
  rintro e w' ⟨⟨A2,c2,HA2,hc2,h1,h2,h3⟩,h4⟩
  rw [if_neg h64]
  subst hn hre
  exact ⟨⟨A2,c2,HA2,hc2,h1,h2,h3⟩,h4⟩
end Go.Proofs.YtnlnclefedohkaaGreatDoor
