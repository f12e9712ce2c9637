/- Walk: have two regions a path in common? -/
import Derived.Lib.AppendZeros
import Derived.Lib.SliceRun
import Derived.IntWalk
import Derived.Deep.RegionHeld3
import Derived.Deep.RegionWith
import Derived.Deep.DeepCutAuto
import Derived.BigQuiet
import Derived.Test.YthopphabeddnfaaGreatDoorZPatsB
import Derived.Test.YthopphabeddnfaaGreatDoorZMapL
import Derived.Test.YthopphabeddnfaaGreatDoorZVoidA
set_option linter.unusedVariables false
set_option linter.unusedSimpArgs false
namespace Go.Proofs.YthopphabeddnfaaGreatDoor
open Go Go.RowKit Sy
theorem own_room {w : World} {cur : Array Value} {cap : Nat} (hm : cap ≤ maxLen) (hs : cur.size = cap * 2) : OwnX encP 2 37 w (w.drew.alloc (.cells cur 37)) (.slice (some ⟨w.heap.size,0,none⟩) 0 cap) []:=
 ⟨Below.alloc (Below.drew (Calm.refl w)) (Below.drew (Calm.refl w)).size _,by
  have:=World.ownsRow_made (base:=w.heap.size) (e:=37) (size:=2) w.drew cur cap (Nat.le_refl _) hm hs
  exact this⟩
def GrowEnd (w : World) (e : Ending) (w' : World) : Prop:=∃ A c,e = .returned (.slice A 0 c) ∧ OwnX encP 2 37 w w' (.slice A 0 c) []
set_option maxRecDepth 100000 in
set_option maxHeartbeats 2000000 in
theorem grow_c (n : Nat) (w : World) (hn : n ≤ 16000000) : Calls Tryz.prog 73 #[.slice none 0 0,.int .i64 n] w fun e w'=>GrowEnd w e w':=by
 rcases Nat.eq_zero_or_pos n with rfl | h0
 ·go_enter Tryz.func73,Tryz.ntmps73
  go_wp2
  go_ret
  exact ⟨none,0,rfl,OwnX.nil (Calm.refl w)⟩
 ·obtain ⟨i0,hi0,hz0,hz1,hz2⟩:=info_parts info_patE
  have hr:=fun ty=>Lib.run_append_nil_zeros (P:=Tryz.prog) w 38 3 ty 37 i0 _ .i64 .i64 Tryz.underlying38 Tryz.underlying3 hi0 hz0 n h0 (by rw [hz1];decide) (by omega) (by rw [hz2];omega)
  have hge:=grownCap_ge w n 0 37
  have hle:=grownCap_le_maxLen w n 0 37 (by unfold maxLen;omega)
  obtain ⟨G,hG⟩ : ∃ G,grownCap w n 0 37 = G:=⟨_,rfl⟩
  rw [hG] at hge hle hr
  obtain ⟨cur,hcur⟩ : ∃ cur,cur = Builtin.zeroCells (Value.agg #[.slice none 0 0,.bool false]).cells n ++ Builtin.zeroCells (Value.agg #[.slice none 0 0,.bool false]).cells (G - n):=⟨_,rfl⟩
  have hcs : cur.size = G * 2:=by
   rw [hcur]
   simp [Builtin.zeroCells,Value.cells]
   omega
  rw [← hcur] at hr
  have HO:=Lib.hid (own_room (w:=w) (cur:=cur) hle hcs)
  have hG63 : G ≤ 9223372036854775807:=by unfold maxLen at hle;omega
  clear hG hcur hcs hle
  go_enter Tryz.func73,Tryz.ntmps73
  go_wp2_with (at_builtin;refine Lib.wpList_append_run _ rfl _ _ _ _ rfl _ _ rfl rfl _ _ (hr _) ?_)
  go_ret
  exact ⟨_,_,rfl,HO.out⟩
def CatEnd (ps : List Pat) (w : World) (e : Ending) (w' : World) : Prop:=∃ A c,e = .returned (.slice A ps.length c) ∧ PatsR w' A ps
set_option maxHeartbeats 4000000 in
theorem concat_c (ps qs : List Pat) (A A' : Option Addr) (n m c c' : Nat) (g cc : Nat) (w : World) (hp : PatsR w A ps) (hq : PatsR w A' qs) (hn : ps.length = n) (hm : qs.length = m) (hl : n + m ≤ 4194304)
  (k0 : w.cell? ⟨g,0,none⟩ = some (.slice A n c)) (k1 : w.cell? ⟨g,1,none⟩ = some (.slice A' m c')) (hg : g < w.heap.size) :
  Calls Tryz.prog 49 #[.slice (some ⟨g,0,none⟩) 2 cc] w fun e w'=>CatEnd (ps ++ qs) w e w' ∧ Calm w w':=by
 obtain ⟨lp,hlp,hX⟩:=hp.places
 obtain ⟨lq,hlq,hY⟩:=hq.places
 have e1 : lp.length = n:=by rw [← hn,← hlp,List.length_map]
 have e2 : lq.length = m:=by rw [← hm,← hlq,List.length_map]
 have HX:=Lib.hid (And.intro hX (And.intro hY (And.intro e1 e2)))
 have HL:=Lib.hid (And.intro hlp hlq)
 have KG:=Lib.hid (fun W=>grow_c (n + m) W (by omega))
 have z1 : IntKind.i64.wrap ((0 : Int) + (n : Int)) = (n : Int):=IntWalk.i64_in _ (by omega) |>.trans (by omega)
 have z2 : IntKind.i64.wrap ((n : Int) + (m : Int)) = ((n + m : Nat) : Int):=by rw [IntWalk.i64_in _ (by omega)];omega
 have HK:=Lib.hid (And.intro k0 (And.intro k1 hg))
 clear hp hq hX hY e1 e2 hlp hlq hn hm
 go_enter Tryz.func49,Tryz.ntmps49
 go_wp2_with fail
 go_loopw [3,11] (fun s i wr=>w = wr ∧ ((i = .int .i64 0 ∧ s = .int .i64 0) ∨ (i = .int .i64 1 ∧ s = .int .i64 n) ∨ (i = .int .i64 2 ∧ s = .int .i64 ((n + m : Nat) : Int)))) (fun _ i _=>2 - (intOf i).toNat)
 case atStart=>exact ⟨rfl,.inl ⟨rfl,rfl⟩⟩
 case round=>
  obtain ⟨rfl,hrel⟩:=hrel
  rcases hrel with ⟨rfl,rfl⟩ | ⟨rfl,rfl⟩ | ⟨rfl,rfl⟩
  ·go_wp2
   go_roundw
   case rel=>exact ⟨trivial,.inr (.inl ⟨by go_num,by go_num⟩)⟩
   case measure=>simp [intOf]
  ·go_wp2
   go_roundw
   case rel=>exact ⟨trivial,.inr (.inr ⟨by go_num,by go_num⟩)⟩
   case measure=>simp [intOf]
  ·go_wp2_with (go_at_call 73;refine (KG.out _).mono ?_;rintro e w2 ⟨AG,cG,rfl,hOG⟩)
   have HOG:=Lib.hid hOG
   clear hOG z1 z2 k0 k1
   go_loopw [6,27] (fun s i wr=>(i = .int .i64 0 ∧ Hid (OwnX encP 2 37 w wr s [])) ∨ (i = .int .i64 1 ∧ Hid (OwnX encP 2 37 w wr s lp)) ∨ (i = .int .i64 2 ∧ Hid (OwnX encP 2 37 w wr s (lp ++ lq)))) (fun _ i _=>2 - (intOf i).toNat)
   case atStart=>exact .inl ⟨rfl,HOG.out⟩
   case round=>
    rcases hrel with ⟨rfl,HO⟩ | ⟨rfl,HO⟩ | ⟨rfl,HO⟩
    ·have k0:=Calm.at_ HO.out.calm HK.out.1 HK.out.2.2
     have hgr:=Nat.lt_of_lt_of_le HK.out.2.2 HO.out.calm.size
     go_wp2_with (at_builtin;refine wpList_append_ps rfl (.tmp 31) (.tmp 32) rfl w u6 [] lp rfl HO.out A n c rfl HX.out.2.2.1 (HX.out.1.read.calm HO.out.calm) (by simp;omega) ?_;intro v6 w6 hown6 hgr6)
     have H6:=Lib.hid hown6
     clear hown6 hgr6 k0 hgr
     go_wp2
     go_roundw
     case rel=>exact .inr (.inl ⟨by go_num,Lib.hid (by simpa using H6.out)⟩)
     case measure=>simp [intOf]
    ·have k1:=Calm.at_ HO.out.calm HK.out.2.1 HK.out.2.2
     have hgr:=Nat.lt_of_lt_of_le HK.out.2.2 HO.out.calm.size
     go_wp2_with (at_builtin;refine wpList_append_ps rfl (.tmp 31) (.tmp 32) rfl w u6 lp lq rfl HO.out A' m c' rfl HX.out.2.2.2 (HX.out.2.1.read.calm HO.out.calm) (by rw [HX.out.2.2.1];omega) ?_;intro v6 w6 hown6 hgr6)
     have H6:=Lib.hid hown6
     clear hown6 hgr6 k1 hgr
     go_wp2
     go_roundw
     case rel=>exact .inr (.inr ⟨by go_num,H6.out⟩)
     case measure=>simp [intOf]
    ·have he : ∀ x ∈ lp ++ lq,PatA wr x.A x.c x.p:=fun x hx=>by
      rcases List.mem_append.1 hx with h | h
      ·exact (HX.out.1.each x h).calm HO.out.calm
      ·exact (HX.out.2.1.each x h).calm HO.out.calm
     obtain ⟨A9,c9,rfl,_,_,hX9⟩:=HO.out.places he
     have hlen : (lp ++ lq).length = n + m:=by rw [List.length_append,HX.out.2.2.1,HX.out.2.2.2]
     have hE : Hid (CatEnd (ps ++ qs) w (.returned (.slice A9 (n + m) c9)) wr):=by
      refine ⟨A9,c9,?_,?_⟩
      ·rw [← hlen,← HL.out.1,← HL.out.2,← List.map_append,List.length_map]
      ·have:=hX9.reads (by rw [hlen];omega)
       rw [List.map_append,HL.out.1,HL.out.2] at this
       exact this
     rw [hlen]
     have HC:=Lib.hid HO.out.calm
     clear hlen he hX9
     go_wp2
     go_ret
     exact ⟨hE.out,HC.out⟩
end Go.Proofs.YthopphabeddnfaaGreatDoor
set_option linter.unusedVariables false
set_option linter.unusedSimpArgs false
namespace Go.Proofs.YthopphabeddnfaaGreatDoor
open Go Go.RowKit Sy

theorem voidp_c (b : Pat) (hs : List Pat) (v : Bool) (n m : Nat) (re : Bool) (A : Option Addr) (c : Nat) (HA : Option Addr) (hc : Nat) (w : World) (h : StrsR w A b.parts) (h2 : PatsR w HA hs) (hv : (leastLen b hs == 0) = v) (hn : b.parts.length = n) (hm : hs.length = m) (hre : b.rest = re) :
  Calls Tryz.prog 16 #[.agg #[.slice A n c,.bool re],.slice HA m hc] w fun e w'=>e = .returned (.bool v) ∧ Calm w w':=by
 have:=void_c b hs A c HA hc w h h2
 unfold void at this
 subst hv hn hm hre
 exact this
structure CBox (w1 : World) (B : Nat) (A : Option Addr) (n c : Nat) (re : Bool) (HA : Option Addr) (m hc : Nat) (A' : Option Addr) (n' c' : Nat) (re' : Bool) (HA' : Option Addr) (m' hc' : Nat) : Prop where
 size : B + 2 ≤ w1.heap.size
 x0 : w1.cell? ⟨B,0,none⟩ = some (.slice A n c)
 x1 : w1.cell? ⟨B,1,none⟩ = some (.bool re)
 x2 : w1.cell? ⟨B,2,none⟩ = some (.slice HA m hc)
 y0 : w1.cell? ⟨B + 1,0,none⟩ = some (.slice A' n' c')
 y1 : w1.cell? ⟨B + 1,1,none⟩ = some (.bool re')
 y2 : w1.cell? ⟨B + 1,2,none⟩ = some (.slice HA' m' hc')
theorem CBox.calm {w1 w2 : World} {B : Nat} {A : Option Addr} {n c : Nat} {re : Bool} {HA : Option Addr} {m hc : Nat} {A' : Option Addr} {n' c' : Nat} {re' : Bool} {HA' : Option Addr} {m' hc' : Nat} (h : CBox w1 B A n c re HA m hc A' n' c' re' HA' m' hc') (hcm : Calm w1 w2) : CBox w2 B A n c re HA m hc A' n' c' re' HA' m' hc':=by
 have h0 : B < w1.heap.size:=by have:=h.size;omega
 have h1 : B + 1 < w1.heap.size:=by have:=h.size;omega
 exact ⟨Nat.le_trans h.size hcm.size,hcm.at_ h.x0 h0,hcm.at_ h.x1 h0,hcm.at_ h.x2 h0,hcm.at_ h.y0 h1,hcm.at_ h.y1 h1,hcm.at_ h.y2 h1⟩
set_option maxRecDepth 100000 in
set_option maxHeartbeats 8000000 in
theorem common_c (x y : Reg) (v : Bool) (n m n' m' : Nat) (re re' : Bool) (A : Option Addr) (c : Nat) (HA : Option Addr) (hc : Nat) (A' : Option Addr) (c' : Nat) (HA' : Option Addr) (hc' : Nat) (w : World) (h : PatA w A c x.b) (hh : PatsR w HA x.hs) (h' : PatA w A' c' y.b) (hh' : PatsR w HA' y.hs) (gx : patErr x.b = 0) (gy : patErr y.b = 0) (hv : commonG x y = v)
  (hn : x.b.parts.length = n) (hm : x.hs.length = m) (hre : x.b.rest = re) (hn' : y.b.parts.length = n') (hm' : y.hs.length = m') (hre' : y.b.rest = re') (hl : m + m' ≤ 4194304) :
  Calls Tryz.prog 20 #[.agg #[.slice A n c,.bool re,.slice HA m hc],.agg #[.slice A' n' c',.bool re',.slice HA' m' hc']] w fun e w'=>e = .returned (.bool v) ∧ Calm w w':=by
 obtain ⟨w1,hw1⟩ : ∃ w1,w1 = (w.alloc (.cells #[.slice A n c,.bool re,.slice HA m hc] 48)).alloc (.cells #[.slice A' n' c',.bool re',.slice HA' m' hc'] 48):=⟨_,rfl⟩
 have hc1 : Calm w w1:=by rw [hw1];exact ((Calm.refl w).alloc _).alloc _
 have hbox : CBox w1 w.heap.size A n c re HA m hc A' n' c' re' HA' m' hc':=by
  rw [hw1]
  exact ⟨by simp,by simp [go_sem],by simp [go_sem],by simp [go_sem],by simp [go_sem],by simp [go_sem],by simp [go_sem]⟩
 have HX:=Lib.hid (And.intro (h.calm hc1) (hh.calm hc1))
 have HY:=Lib.hid (And.intro (h'.calm hc1) (hh'.calm hc1))
 have HN:=Lib.hid (And.intro hn (And.intro hm hre))
 have HN':=Lib.hid (And.intro hn' (And.intro hm' hre'))
 have HW:=Lib.hid hw1
 have HC:=Lib.hid hc1
 have HB:=Lib.hid hbox
 have x0:=hbox.x0
 have x1:=hbox.x1
 have y0:=hbox.y0
 have y1:=hbox.y1
 clear hbox hc1 h hh h' hh' hn hm hre hn' hm' hre'
 unfold commonG at hv
 rcases hmt : meetP x.b y.b with _ | mm
 ·rw [hmt] at hv
  have hv2 : Hid (v = false):=hv.symm
  have KM : Hid (∀ W,Calm w1 W → Calls Tryz.prog 36 #[.agg #[.slice A n c,.bool re],.agg #[.slice A' n' c',.bool re']] W fun e w'=>e = .returned (.tuple #[.agg #[.slice none 0 0,.bool false],.bool false]) ∧ Calm W w'):=fun W hW=>by
   have:=meet_no x.b y.b A A' c c' W (HX.out.1.calm hW) (HY.out.1.calm hW) gx gy hmt
   rw [HN.out.1,HN.out.2.2,HN'.out.1,HN'.out.2.2] at this
   exact this
  clear gx gy hmt hv hw1
  go_enter Tryz.func20,Tryz.ntmps20
  rw [HW.out] at x0 x1 y0 y1
  go_wp2_with fail
  rw [← HW.out]
  refine (KM.out w1 (Calm.refl _)).mono ?_
  rintro e w3 ⟨rfl,hc3⟩
  go_wp2_with fail
  go_cut [4] (fun s wx=>s = .bool false ∧ Hid (Calm w3 wx))
  case first=>
   go_quiet (fail)
   all_goals
    go_wp2_with fail
    go_meet
    case rel=>
     first
      |exact ⟨rfl,Lib.hid (((Calm.refl _).alloc _).drewN _)⟩
      |exact ⟨rfl,Lib.hid ((Calm.refl _).alloc _)⟩
  case rest=>
   obtain ⟨rfl,HR⟩:=hcut
   go_wp2_with fail
   go_ret
   exact ⟨ret_bool hv2.out.symm,HC.out.trans (hc3.trans HR.out)⟩
 ·rw [hmt] at hv
  simp only at hv
  obtain ⟨vz,hvz⟩ : ∃ vz,(leastLen mm (x.hs ++ y.hs) == 0) = vz:=⟨_,rfl⟩
  have hv2 : Hid (v = !vz):=by
   show _ = _
   rw [← hv,← hvz]
   rfl
  obtain ⟨N,hN⟩ : ∃ N,(x.hs ++ y.hs).length = N:=⟨_,rfl⟩
  obtain ⟨gn,hgn⟩ : ∃ gn,mm.parts.length = gn:=⟨_,rfl⟩
  obtain ⟨gr,hgr⟩ : ∃ gr,mm.rest = gr:=⟨_,rfl⟩
  have KM : Hid (∀ W,Calm w1 W → Calls Tryz.prog 36 #[.agg #[.slice A n c,.bool re],.agg #[.slice A' n' c',.bool re']] W fun e w'=>(∃ A2 c2,e = .returned (.tuple #[.agg #[.slice A2 gn c2,.bool gr],.bool true]) ∧ SmallN w' W.heap.size ⟨A2,c2,mm⟩) ∧ Calm W w'):=fun W hW=>by
   have:=meet_yes x.b y.b mm A A' c c' W (HX.out.1.calm hW) (HY.out.1.calm hW) gx gy hmt
   rw [HN.out.1,HN.out.2.2,HN'.out.1,HN'.out.2.2,hgn,hgr] at this
   exact this
  have KV : Hid (∀ A2 c2 AC cC W,PatA W A2 c2 mm → PatsR W AC (x.hs ++ y.hs) → Calls Tryz.prog 16 #[.agg #[.slice A2 gn c2,.bool gr],.slice AC N cC] W fun e w'=>e = .returned (.bool vz) ∧ Calm W w'):=fun A2 c2 AC cC W h1 h2=>
   voidp_c mm (x.hs ++ y.hs) vz gn N gr A2 c2 AC cC W h1.r h2 hvz hgn hN hgr
  have HNN:=Lib.hid hN
  clear gx gy hmt hv hw1 hvz hgn hgr hN
  go_enter Tryz.func20,Tryz.ntmps20
  rw [HW.out] at x0 x1 y0 y1
  go_wp2_with fail
  rw [← HW.out]
  refine (KM.out w1 (Calm.refl _)).mono ?_
  rintro e w3 ⟨⟨A2,c2,rfl,hs3⟩,hc3⟩
  clear x0 x1 y0 y1
  go_upto_region 2 with (fail)
  obtain ⟨w4,hw4⟩ : ∃ w4,w4 = w3.alloc (.cells #[.slice A2 gn c2,.bool gr] 37):=⟨_,rfl⟩
  rw [← hw4]
  have hc4 : Calm w3 w4:=by rw [hw4];exact (Calm.refl w3).alloc _
  have t0 : w4.cell? ⟨w3.heap.size,0,none⟩ = some (.slice A2 gn c2):=by rw [hw4];simp [go_sem]
  have t1 : w4.cell? ⟨w3.heap.size,1,none⟩ = some (.bool gr):=by rw [hw4];simp [go_sem]
  have tlt : w3.heap.size < w4.heap.size:=by rw [hw4];simp [go_sem]
  have HC4:=Lib.hid (hc3.trans hc4)
  have HS4:=Lib.hid (hs3.calm hc4)
  have hBx:=HB.out.calm HC4.out
  have HSX : Hid (∀ W,Calm w4 W → W.cell? ⟨w3.heap.size,0,none⟩ = some (.slice A2 gn c2) ∧ W.cell? ⟨w3.heap.size,1,none⟩ = some (.bool gr) ∧ W.cell? ⟨w.heap.size,2,none⟩ = some (.slice HA m hc) ∧ W.cell? ⟨w.heap.size + 1,2,none⟩ = some (.slice HA' m' hc')):=fun W hW=>
   ⟨Calm.at_ hW t0 tlt,Calm.at_ hW t1 tlt,Calm.at_ hW hBx.x2 (by have:=hBx.size;omega),Calm.at_ hW hBx.y2 (by have:=hBx.size;omega)⟩
  have KCat : Hid (∀ W gg,Calm w4 W → W.cell? ⟨gg,0,none⟩ = some (.slice HA m hc) → W.cell? ⟨gg,1,none⟩ = some (.slice HA' m' hc') → gg < W.heap.size → Calls Tryz.prog 49 #[.slice (some ⟨gg,0,none⟩) 2 2] W fun e w'=>(∃ AC cC,e = .returned (.slice AC N cC) ∧ PatsR w' AC (x.hs ++ y.hs)) ∧ Calm W w'):=fun W gg hW k0 k1 hgg=>by
   have:=concat_c x.hs y.hs HA HA' m m' hc hc' gg 2 W (HX.out.2.calm (HC4.out.trans hW)) (HY.out.2.calm (HC4.out.trans hW)) HN.out.2.1 HN'.out.2.1 hl k0 k1 hgg
   unfold CatEnd at this
   rw [HNN.out] at this
   exact this
  clear hw4 hc3 hc4 hs3 t0 t1 tlt hBx KM
  go_cut [4] (fun s wx=>s = .bool (!vz) ∧ Hid (Calm w4 wx))
  case first=>
   go_region_held3 (fun W=>W.cell? ⟨w3.heap.size,0,none⟩ = some (.slice A2 gn c2) ∧ W.cell? ⟨w3.heap.size,1,none⟩ = some (.bool gr) ∧ W.cell? ⟨w.heap.size,2,none⟩ = some (.slice HA m hc) ∧ W.cell? ⟨w.heap.size + 1,2,none⟩ = some (.slice HA' m' hc'))
    (first
     |with_reducible exact HSX.out _ hcy
     |with_reducible exact HSX.out _ (hcy.alloc _)
     |with_reducible exact HSX.out _ hcx
     |with_reducible exact HSX.out _ (Calm.refl _)
     |with_reducible exact HSX.out _ (Below.drew (Calm.refl _))
     |with_reducible exact HSX.out _ (Below.drew ((Calm.refl _).alloc _))
     |with_reducible exact HSX.out _ ((Calm.refl _).alloc _)
     |go_keep)
    (first
     |(go_at_call 49;refine (KCat.out _ _ (by first | exact Below.drew ((Calm.refl _).alloc _) | exact (Calm.refl _).alloc _ | exact Below.drew (Calm.refl _)) (by simp [go_sem]) (by simp [go_sem]) (by simp [go_sem])).mono ?_;rintro e w6 ⟨⟨AC,cC,rfl,hP6⟩,hcC⟩;have hcx : Calm w4 w6:=Calm.trans (by first | exact Below.drew ((Calm.refl _).alloc _) | exact (Calm.refl _).alloc _ | exact Below.drew (Calm.refl _)) hcC)
     |(go_at_call 16;refine (KV.out A2 c2 AC cC _ (HS4.out.calm hcx).a hP6).mono ?_;rintro e w7 ⟨rfl,hc7⟩;have hcy : Calm w4 w7:=hcx.trans hc7))
   all_goals
    go_wp2_with fail
    go_meet
    case rel=>exact ⟨rfl,Lib.hid hcy⟩
  case rest=>
   obtain ⟨rfl,HR⟩:=hcut
   go_wp2_with fail
   go_ret
   exact ⟨ret_bool hv2.out.symm,HC.out.trans (HC4.out.trans HR.out)⟩
end Go.Proofs.YthopphabeddnfaaGreatDoor
