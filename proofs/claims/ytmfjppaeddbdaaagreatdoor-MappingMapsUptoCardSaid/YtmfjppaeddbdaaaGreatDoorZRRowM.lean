/- The reference's rows of entries and of regions on the way. -/
import Derived.Deep.DeepCutAuto
import Derived.Deep.RegionHeld3
import Derived.Test.YtmfjppaeddbdaaaGreatDoorZRegB
import Derived.Test.YtmfjppaeddbdaaaGreatDoorZMapA
import Derived.Test.YtmfjppaeddbdaaaGreatDoorZCommonP
import Derived.Test.YtmfjppaeddbdaaaGreatDoorZRMeetY
import Derived.Test.YtmfjppaeddbdaaaGreatDoorZVoidB
import Derived.Test.YtmfjppaeddbdaaaGreatDoorZRRightW
import Derived.Test.YtmfjppaeddbdaaaGreatDoorZCheckW
import Derived.Test.YtmfjppaeddbdaaaGreatDoorZMapMem
import Derived.Test.YtmfjppaeddbdaaaGreatDoorZOutM
set_option linter.unusedVariables false
set_option linter.unusedSimpArgs false
namespace Go.Proofs.YtmfjppaeddbdaaaGreatDoor
open Go Go.RowKit Sy
structure RCom (w4 wx : World) (B10 : Nat) (v0 v1 : Value) (A8 : Option Addr) (N c8 : Nat) (hs : List Pat) : Prop where
  calm : Calm w4 wx
  box : RgB wx B10 v0 v1 (.slice A8 N c8)
  holes : PatsR wx A8 hs
theorem rcom_new {w4 w8 : World} {v0 v1 : Value} {A8 : Option Addr} {N c8 : Nat} {hs : List Pat} (hc : Calm w4 w8) (hr : PatsR w8 A8 hs) : RCom w4 (w8.alloc (.cells #[v0, v1, .slice A8 N c8] 43)) w8.heap.size v0 v1 A8 N c8 hs :=
  ⟨hc.alloc _, RgB.new w8 _ _ _, hr.calm ((Calm.refl w8).alloc _)⟩
theorem rcom_set {w4 w8 : World} {b : Nat} {z0 z1 z2 v0 v1 : Value} {A8 : Option Addr} {N c8 : Nat} {hs : List Pat} {l : List NewP} (hz : RgB w8 b z0 z1 z2) (h4 : w4.heap.size ≤ b) (hown : OwnX encP 2 40 w4 w8 (.slice A8 N c8) l) (he : ∀ x ∈ l, PatA w4 x.A x.c x.p) (hl : l.length ≤ 16384) (hm : l.map (·.p) = hs) :
    RCom w4 (((w8.setCell ⟨b, 0, none⟩ v0).setCell ⟨b, 1, none⟩ v1).setCell ⟨b, 2, none⟩ (.slice A8 N c8)) b v0 v1 A8 N c8 hs := by
  have hne := hown.kindne (by decide) hz.kind
  have h3 := ((hown.setX (p := ⟨b, 0, none⟩) v0 h4 hne).setX (p := ⟨b, 1, none⟩) v1 h4 hne).setX (p := ⟨b, 2, none⟩) (.slice A8 N c8) h4 hne
  have hrd := own_readsR h3 (fun z hz => (he z hz).calm h3.calm) hl
  rw [hm] at hrd
  exact ⟨h3.calm, hz.set3 _ _ _, hrd⟩
theorem rlenp_v (b : Pat) (hs : List Pat) (v : Nat) (n m : Nat) (re : Bool) (A : Option Addr) (c : Nat) (HA : Option Addr) (hc : Nat) (w : World) (h : StrsR w A b.parts) (h2 : PatsR w HA hs) (hg : patErr b = 0) (hgs : ∀ p ∈ hs, patErr p = 0) (hv : leastLen b hs = v) (hn : b.parts.length = n) (hm : hs.length = m) (hre : b.rest = re) :
    Calls Tryz.prog 42 #[.agg #[.slice A n c, .bool re, .slice HA m hc]] w fun e w' => e = .returned (.int .i64 v) ∧ Calm w w' := by
  have := rlen_c b hs A c HA hc w h h2 (allOk_of hg) (fun p hp => allOk_of (hgs p hp))
  subst hv hn hm hre
  exact this
set_option maxRecDepth 100000 in
set_option maxHeartbeats 8000000 in
theorem rcommon_c (x y : Reg) (v : Bool) (n m n' m' : Nat) (re re' : Bool) (A : Option Addr) (c : Nat) (HA : Option Addr) (hc : Nat) (A' : Option Addr) (c' : Nat) (HA' : Option Addr) (hc' : Nat) (w : World) (h : PatA w A c x.b) (hh : PatsR w HA x.hs) (h' : PatA w A' c' y.b) (hh' : PatsR w HA' y.hs) (gx : patErr x.b = 0) (gy : patErr y.b = 0) (gxh : ∀ p ∈ x.hs, patErr p = 0) (gyh : ∀ p ∈ y.hs, patErr p = 0) (hv : commonG x y = v)
    (hn : x.b.parts.length = n) (hm : x.hs.length = m) (hre : x.b.rest = re) (hn' : y.b.parts.length = n') (hm' : y.hs.length = m') (hre' : y.b.rest = re') (hl : m + m' ≤ 16384) :
    Calls Tryz.prog 38 #[.agg #[.slice A n c, .bool re, .slice HA m hc], .agg #[.slice A' n' c', .bool re', .slice HA' m' hc']] w fun e w' => e = .returned (.bool v) ∧ Calm w w' := by
  obtain ⟨w1, hw1⟩ : ∃ w1, w1 = (w.alloc (.cells #[.slice A n c, .bool re, .slice HA m hc] 43)).alloc (.cells #[.slice A' n' c', .bool re', .slice HA' m' hc'] 43) := ⟨_, rfl⟩
  have hc1 : Calm w w1 := by rw [hw1]; exact ((Calm.refl w).alloc _).alloc _
  have hbox : CBox w1 w.heap.size A n c re HA m hc A' n' c' re' HA' m' hc' := by
    rw [hw1]
    exact ⟨by simp, by simp [go_sem], by simp [go_sem], by simp [go_sem], by simp [go_sem], by simp [go_sem], by simp [go_sem]⟩
  have HX := Lib.hid (And.intro (h.calm hc1) (hh.calm hc1))
  have HY := Lib.hid (And.intro (h'.calm hc1) (hh'.calm hc1))
  have HN := Lib.hid (And.intro hn (And.intro hm hre))
  have HN' := Lib.hid (And.intro hn' (And.intro hm' hre'))
  have HW := Lib.hid hw1
  have HC := Lib.hid hc1
  have HB := Lib.hid hbox
  have x0 := hbox.x0
  have x1 := hbox.x1
  have y0 := hbox.y0
  have y1 := hbox.y1
  clear hbox hc1 h hh h' hh' hn hm hre hn' hm' hre'
  unfold commonG at hv
  rcases hmt : meetP x.b y.b with _ | mm
  · rw [hmt] at hv
    have hv2 : Hid (v = false) := hv.symm
    have KM : Hid (∀ W, Calm w1 W → Calls Tryz.prog 69 #[.agg #[.slice A n c, .bool re], .agg #[.slice A' n' c', .bool re']] W fun e w' => e = .returned (.tuple #[.agg #[.slice none 0 0, .bool false], .bool false]) ∧ Calm W w') := fun W hW => by
      have := rmeet_no x.b y.b A A' c c' W (HX.out.1.calm hW) (HY.out.1.calm hW) gx gy hmt
      rw [HN.out.1, HN.out.2.2, HN'.out.1, HN'.out.2.2] at this
      exact this
    clear gx gy gxh gyh hmt hv hw1
    go_enter Tryz.func38, Tryz.ntmps38
    rw [HW.out] at x0 x1 y0 y1
    go_wp2_with fail
    rw [← HW.out]
    refine (KM.out w1 (Calm.refl _)).mono ?_
    rintro e w3 ⟨rfl, hc3⟩
    go_wp2_with fail
    go_ret
    exact ⟨ret_bool hv2.out.symm, HC.out.trans (hc3.trans ((Calm.refl _).alloc _))⟩
  · rw [hmt] at hv
    simp only at hv
    obtain ⟨vz, hvz⟩ : ∃ vz, leastLen mm (x.hs ++ y.hs) = vz := ⟨_, rfl⟩
    have hv2 : Hid (v = (vz != 0)) := by
      show _ = _
      rw [← hv, ← hvz]
    obtain ⟨lx, hlx, hX⟩ := HX.out.2.places
    obtain ⟨ly, hly, hY⟩ := HY.out.2.places
    have elx : lx.length = m := by rw [← HN.out.2.1, ← hlx, List.length_map]
    have ely : ly.length = m' := by rw [← HN'.out.2.1, ← hly, List.length_map]
    have HLx := Lib.hid (And.intro elx (And.intro hlx hX))
    have HLy := Lib.hid (And.intro ely (And.intro hly hY))
    obtain ⟨N, hN⟩ : ∃ N, (x.hs ++ y.hs).length = N := ⟨_, rfl⟩
    obtain ⟨gn, hgn⟩ : ∃ gn, mm.parts.length = gn := ⟨_, rfl⟩
    obtain ⟨gr, hgr⟩ : ∃ gr, mm.rest = gr := ⟨_, rfl⟩
    have KM : Hid (∀ W, Calm w1 W → Calls Tryz.prog 69 #[.agg #[.slice A n c, .bool re], .agg #[.slice A' n' c', .bool re']] W fun e w' => (∃ A2 c2, e = .returned (.tuple #[.agg #[.slice A2 gn c2, .bool gr], .bool true]) ∧ SmallN w' W.heap.size ⟨A2, c2, mm⟩) ∧ Calm W w') := fun W hW => by
      have := rmeet_yes x.b y.b mm A A' c c' W (HX.out.1.calm hW) (HY.out.1.calm hW) gx gy hmt
      rw [HN.out.1, HN.out.2.2, HN'.out.1, HN'.out.2.2, hgn, hgr] at this
      exact this
    have gmm := (meetP_some hmt).2.2.2
    have KV : Hid (∀ A2 c2 AC cC W, PatA W A2 c2 mm → PatsR W AC (x.hs ++ y.hs) → Calls Tryz.prog 42 #[.agg #[.slice A2 gn c2, .bool gr, .slice AC N cC]] W fun e w' => e = .returned (.int .i64 vz) ∧ Calm W w') := fun A2 c2 AC cC W h1 h2 =>
      rlenp_v mm (x.hs ++ y.hs) vz gn N gr A2 c2 AC cC W h1.r h2 gmm (fun p hp => (List.mem_append.1 hp).elim (gxh p) (gyh p)) hvz hgn hN hgr
    have HNe : Hid (m + m' = N) := by
      show m + m' = N
      rw [← hN, List.length_append, HN.out.2.1, HN'.out.2.1]
    have HNN := Lib.hid hN
    clear gx gy gxh gyh gmm hmt hv hw1 hvz hgn hgr hN hlx hX hly hY elx ely
    go_enter Tryz.func38, Tryz.ntmps38
    rw [HW.out] at x0 x1 y0 y1
    go_wp2_with fail
    rw [← HW.out]
    refine (KM.out w1 (Calm.refl _)).mono ?_
    rintro e w3 ⟨⟨A2, c2, rfl, hs3⟩, hc3⟩
    clear x0 x1 y0 y1
    go_upto_region 4 with (fail)
    obtain ⟨w4, hw4⟩ : ∃ w4, w4 = w3.alloc (.cells #[.slice A2 gn c2, .bool gr] 40) := ⟨_, rfl⟩
    rw [← hw4]
    have hc4 : Calm w3 w4 := by rw [hw4]; exact (Calm.refl w3).alloc _
    have t0 : w4.cell? ⟨w3.heap.size, 0, none⟩ = some (.slice A2 gn c2) := by rw [hw4]; simp [go_sem]
    have t1 : w4.cell? ⟨w3.heap.size, 1, none⟩ = some (.bool gr) := by rw [hw4]; simp [go_sem]
    have tlt : w3.heap.size < w4.heap.size := by rw [hw4]; simp [go_sem]
    have HC4 := Lib.hid (hc3.trans hc4)
    have HS4 := Lib.hid (hs3.calm hc4)
    have hBx := HB.out.calm HC4.out
    have HSX : Hid (∀ W, Calm w4 W → W.cell? ⟨w3.heap.size, 0, none⟩ = some (.slice A2 gn c2) ∧ W.cell? ⟨w3.heap.size, 1, none⟩ = some (.bool gr) ∧ W.cell? ⟨w.heap.size, 2, none⟩ = some (.slice HA m hc) ∧ W.cell? ⟨w.heap.size + 1, 2, none⟩ = some (.slice HA' m' hc')) := fun W hW =>
      ⟨Calm.at_ hW t0 tlt, Calm.at_ hW t1 tlt, Calm.at_ hW hBx.x2 (by have := hBx.size; omega), Calm.at_ hW hBx.y2 (by have := hBx.size; omega)⟩
    clear hw4 hc3 hc4 hs3 t0 t1 tlt hBx KM
    go_cut [7] (fun s wx => ∃ B10 A8 c8, s = .pointer (some ⟨B10, 0, none⟩) ∧ Hid (RCom w4 wx B10 (.slice A2 gn c2) (.bool gr) A8 N c8 (x.hs ++ y.hs)))
    case first =>
      go_region_held3 (fun W => W.cell? ⟨w3.heap.size, 0, none⟩ = some (.slice A2 gn c2) ∧ W.cell? ⟨w3.heap.size, 1, none⟩ = some (.bool gr) ∧ W.cell? ⟨w.heap.size, 2, none⟩ = some (.slice HA m hc) ∧ W.cell? ⟨w.heap.size + 1, 2, none⟩ = some (.slice HA' m' hc'))
        (first
          | with_reducible exact HSX.out _ hcy
          | with_reducible exact HSX.out _ (hcy.alloc _)
          | with_reducible exact HSX.out _ hcx
          | with_reducible exact HSX.out _ (hcx.alloc _)
          | with_reducible exact HSX.out _ (calm3' hcy hcx.size _ _ _)
          | with_reducible exact HSX.out _ (calm3' hcy (Nat.le_refl _) _ _ _)
          | with_reducible exact HSX.out _ (Calm.refl _)
          | with_reducible exact HSX.out _ (Below.drew (Calm.refl _))
          | with_reducible exact HSX.out _ (Below.drew ((Calm.refl _).alloc _))
          | with_reducible exact HSX.out _ ((Calm.refl _).alloc _)
          | go_keep)
        (first
          | (refine step_append_ps rfl _ (.tmp 20) rfl w4 (.slice none 0 0) [] lx (by simp [Act.eval, Act.put]) (OwnX.nil (by first | exact Below.drew (Calm.refl _) | exact Below.drew ((Calm.refl _).alloc _))) HA m hc (by simp [Act.eval, Act.put]) HLx.out.1 (HLx.out.2.2.read.calm (HC4.out.trans (by first | exact Below.drew (Calm.refl _) | exact Below.drew ((Calm.refl _).alloc _)))) (by simp; omega) ?_; intro v6 w6 hown6 hgr6; rw [List.nil_append] at hown6; obtain ⟨A6, c6, hv6⟩ := hown6.len_shape; rw [HLx.out.1] at hv6; subst hv6; have hcx : Calm w4 w6 := hown6.calm; (first | have hZ6 : RgB w6 w4.heap.size (.slice none 0 0) (.bool false) (.slice none 0 0) := RgB.own (RgB.calm (RgB.new w4 _ _ _) (Below.drew (Calm.refl _))) (OwnX.nil (enc := encP) (K := 2) (T := 40) (Below.drew ((Calm.refl w4).alloc _))) hgr6 | skip))
          | (refine step_append_ps rfl (.tmp 21) (.tmp 23) rfl w4 (.slice A6 m c6) lx ly (by simp [Act.eval, Act.put]) (hown6.to (by first | exact Calm.refl _ | exact (Calm.refl _).alloc _)) HA' m' hc' (by simp [Act.eval, Act.put]) HLy.out.1 (HLy.out.2.2.read.calm (HC4.out.trans (hcx.trans (by first | exact Calm.refl _ | exact (Calm.refl _).alloc _)))) (by rw [HLx.out.1]; omega) ?_; intro v8 w8 hown8 hgr8; obtain ⟨A8, c8, hv8⟩ := hown8.len_shape; rw [List.length_append, HLx.out.1, HLy.out.1, HNe.out] at hv8; subst hv8; have hcy : Calm w4 w8 := hown8.calm; (first | have hZ8 : RgB w8 w6.heap.size (.slice none 0 0) (.bool false) (.slice none 0 0) := RgB.own (RgB.new w6 _ _ _) (hown6.to ((Calm.refl w6).alloc _)) hgr8 | have hZ8 : RgB w8 w4.heap.size (.slice none 0 0) (.bool false) (.slice none 0 0) := RgB.own hZ6 hown6 hgr8 | skip); try (have z0 := hZ8.c0; have z1 := hZ8.c1; have z2 := hZ8.c2; have f0 := hZ8.f 0; have f1 := hZ8.f 1; have f2 := hZ8.f 2)))
      all_goals
        have hEv : ∀ z ∈ lx ++ ly, PatA w4 z.A z.c z.p := fun z hz => by
          rcases List.mem_append.1 hz with h | h
          · exact (HLx.out.2.2.each z h).calm HC4.out
          · exact (HLy.out.2.2.each z h).calm HC4.out
        have hEl : (lx ++ ly).length ≤ 16384 := by rw [List.length_append, HLx.out.1, HLy.out.1]; exact hl
        have hEm : (lx ++ ly).map (·.p) = x.hs ++ y.hs := by rw [List.map_append, HLx.out.2.1, HLy.out.2.1]
        have hrd := own_readsR hown8 (fun z hz => (hEv z hz).calm hcy) hEl
        rw [hEm] at hrd
        have hs6 := hcx.size
        go_wp2_with fail
        go_meet
        case rel =>
          first
            | exact ⟨_, _, _, rfl, rcom_new hcy hrd⟩
            | exact ⟨_, _, _, rfl, rcom_set hZ8 (by omega) hown8 hEv hEl hEm⟩
    case rest =>
      obtain ⟨B10, A8, c8, rfl, HR⟩ := hcut
      have c0 := HR.out.box.c0
      have c1 := HR.out.box.c1
      have e2 := HR.out.box.c2
      by_cases hz : vz = 0
      · subst hz
        have hv3 : Hid (v = false) := hv2.out
        go_wp2_with (go_at_call 42; refine (KV.out A2 c2 A8 c8 _ (HS4.out.calm HR.out.calm).a HR.out.holes).mono ?_; rintro e w7 ⟨rfl, hc7⟩)
        go_ret
        exact ⟨ret_bool hv3.out.symm, HC.out.trans (HC4.out.trans (HR.out.calm.trans hc7))⟩
      · have hv3 : Hid (v = true) := by
          show v = true
          rw [hv2.out]
          simpa using hz
        have hpos : (0 : Int) < (vz : Int) := by omega
        go_wp2_with (go_at_call 42; refine (KV.out A2 c2 A8 c8 _ (HS4.out.calm HR.out.calm).a HR.out.holes).mono ?_; rintro e w7 ⟨rfl, hc7⟩)
        go_ret
        exact ⟨ret_bool (by rw [hv3.out]; simpa using hpos), HC.out.trans (HC4.out.trans (HR.out.calm.trans hc7))⟩
end Go.Proofs.YtmfjppaeddbdaaaGreatDoor
set_option linter.unusedVariables false
set_option linter.unusedSimpArgs false
namespace Go.Proofs.YtmfjppaeddbdaaaGreatDoor
open Go Go.RowKit Sy

theorem SizeE.r {K : Nat} {x : Ent} (h : SizeE K x) (hK : K ≤ 250) : SmallR x.rule := ⟨by have := h.lp; show x.left.parts.length ≤ _; omega, fun s hs' => by have := h.ls s hs'; omega, by have := h.rp; show x.right.parts.length ≤ _; omega, fun s hs' => by have := h.rs s hs'; omega⟩
theorem redC {x y : Ent} {ks ls : List Pat} (h1 : rightHs x.rule x.hs = some ks) (h2 : rightHs y.rule y.hs = some ls) : commonG ⟨x.right, redL x.right ks⟩ ⟨y.right, redL y.right ls⟩ = commonG ⟨x.right, ks⟩ ⟨y.right, ls⟩ :=
  commonG_red (a := ⟨x.right, ks⟩) (b := ⟨y.right, ls⟩) (fun p hp => (rightHs_good h1).1 p hp) (fun p hp => (rightHs_good h2).1 p hp)
set_option maxRecDepth 100000 in
set_option maxHeartbeats 16000000 in
theorem rmchk_c (es : List Ent) (n c : Nat) (A : Option Addr) (w : World) (h : EntsA w A es) (hcn : n ≤ c) (hcc : c ≤ 9223372036854775807) (hs : ∀ x ∈ es, SmallE x) (hn : es.length = n) :
    Calls Tryz.prog 13 #[.slice A n c] w fun e w' => e = .returned (.tuple #[.int .i64 ((mapE es).1 : Nat), .int .i64 (mapE es).2]) ∧ Calm w w' := by
  have hl : n ≤ 1048576 := by rw [← hn]; exact h.1
  have HE := Lib.hid h
  have HS := Lib.hid hs
  have HN := Lib.hid hn
  clear h hs hn
  go_enter Tryz.func13, Tryz.ntmps13
  go_wp2_with fail
  go_loopw [20] (fun u wr => ∃ k : Nat, k ≤ n ∧ u = .int .i64 k ∧ Hid (∀ j q, j < k → es[j]? = some q → entryOk q = true) ∧ Hid (Calm w wr)) (fun u _ => n - (intOf u).toNat)
  case atStart => exact ⟨0, Nat.zero_le _, rfl, fun j h hj => absurd hj (Nat.not_lt_zero _), Calm.refl _⟩
  case round =>
    obtain ⟨k, hk, rfl, HI, HCr⟩ := hrel
    obtain ⟨wq, rfl⟩ : ∃ wq, wq = wr := ⟨_, rfl⟩
    by_cases hlt : k < n
    · obtain ⟨b, o, z, rfl, hb, hz, c0, c1, c2, c3, c4, hu⟩ := (HE.out.calm HCr.out).get (k := k) (by rw [HN.out]; exact hlt)
      have hss := HS.out z.e (List.mem_of_getElem? hz)
      obtain ⟨nl, hnl⟩ : ∃ nl, z.e.left.parts.length = nl := ⟨_, rfl⟩
      obtain ⟨nr, hnr⟩ : ∃ nr, z.e.right.parts.length = nr := ⟨_, rfl⟩
      obtain ⟨lr, hlr⟩ : ∃ lr, z.e.left.rest = lr := ⟨_, rfl⟩
      obtain ⟨rr, hrr⟩ : ∃ rr, z.e.right.rest = rr := ⟨_, rfl⟩
      obtain ⟨hn, hhn⟩ : ∃ hn, z.e.hs.length = hn := ⟨_, rfl⟩
      rw [hnl] at c0
      rw [hlr] at c1
      rw [hnr] at c2
      rw [hrr] at c3
      rw [hhn] at c4
      obtain ⟨v, hv⟩ : ∃ v, ruleErr z.e.rule = v := ⟨_, rfl⟩
      obtain ⟨y, hy⟩ : ∃ y, gErr z.e.reg = y := ⟨_, rfl⟩
      have KL : Hid (∀ W, Calls Tryz.prog 34 #[entV z.LA z.RA z.HA nl z.lc nr z.rc hn z.hc lr rr] W fun e w' => e = .returned (.agg #[.bool false, .slice z.LA nl z.lc, .bool lr, .slice z.RA nr z.rc, .bool rr]) ∧ Calm W w') := fun W => rline_c _ _ _ _ _ _ _ _ _ _ _ W
      have KG : Hid (∀ W, Calls Tryz.prog 36 #[entV z.LA z.RA z.HA nl z.lc nr z.rc hn z.hc lr rr] W fun e w' => e = .returned (.agg #[.slice z.LA nl z.lc, .bool lr, .slice z.HA hn z.hc]) ∧ Calm W w') := fun W => rleft_c _ _ _ _ _ _ _ _ _ _ _ W
      have KR : Hid (∀ W, Calm wq W → Calls Tryz.prog 33 #[.agg #[.bool false, .slice z.LA nl z.lc, .bool lr, .slice z.RA nr z.rc, .bool rr]] W fun e w' => e = .returned (.int .i64 v) ∧ Calm W w') := fun W hW => by
        have := rrule_c z.e.rule z.pl W (hu.calm hW).rule (hss.r (Nat.le_refl _))
        unfold ruleV Ent.rule NewE.pl at this
        simp only [hnl, hnr, hlr, hrr] at this
        rw [show (⟨false, z.e.left, z.e.right⟩ : Rule) = z.e.rule from rfl, hv] at this
        exact this
      have KC : Hid (∀ W, Calm wq W → Calls Tryz.prog 35 #[.agg #[.slice z.LA nl z.lc, .bool lr, .slice z.HA hn z.hc]] W fun e w' => e = .returned (.int .i64 y) ∧ Calm W w') := fun W hW => by
        have hh := hu.calm hW
        have := rgchecku_c z.e.left z.e.hs z.LA z.lc z.HA z.hc W hh.l hh.lroom hh.lcap hh.h
        rw [hnl, hlr, hhn, show regErr z.e.left z.e.hs = y from hy] at this
        exact this
      have HOk : Hid (entryOk z.e = (v == 0 && y == 0)) := by
        show _ = _
        unfold entryOk
        rw [hv, hy]
      have HZ := Lib.hid hz
      obtain ⟨B, hB⟩ : ∃ B, wq.heap.size = B := ⟨_, rfl⟩
      obtain ⟨wb, hwb⟩ : ∃ wb, wb = wq.alloc (.cells #[.slice z.LA nl z.lc, .bool lr, .slice z.RA nr z.rc, .bool rr, .slice z.HA hn z.hc] 51) := ⟨_, rfl⟩
      have hf : FiveB wb B (.slice z.LA nl z.lc) (.bool lr) (.slice z.RA nr z.rc) (.bool rr) (.slice z.HA hn z.hc) := by
        rw [hwb, ← hB]
        exact FiveB.new wq _ _ _ _ _ _
      have hcb : Calm wq wb := by
        show Below _ _ _
        rw [hwb]
        exact (Calm.refl _).alloc _
      have HF := Lib.hid hf
      have HCb := Lib.hid hcb
      have HWb := Lib.hid hwb
      have HBB := Lib.hid hB
      clear hz hu hnl hnr hlr hrr hhn hv hy hcb hwb hB hf hss
      go_wp2_with fail
      rw [← HWb.out]
      refine (KL.out wb).mono ?_
      rintro e w3 ⟨rfl, hc3⟩
      have HC3 : Hid (Calm wb w3) := hc3
      rw [HBB.out]
      clear c0 c1 c2 c3 c4 hc3
      go_wp2_with fail
      refine (KR.out w3 (HCb.out.trans HC3.out)).mono ?_
      rintro e w4 ⟨rfl, hc4⟩
      have HC4 : Hid (Calm wb w4) := HC3.out.trans hc4
      clear hc4
      have f3 := HF.out.calm HC4.out
      have c0 := f3.c0
      have c1 := f3.c1
      have c2 := f3.c2
      have c3 := f3.c3
      have c4 := f3.c4
      clear f3
      by_cases hv0 : v = 0
      · subst hv0
        go_wp2_with fail
        refine (KG.out w4).mono ?_
        rintro e w5 ⟨rfl, hc5⟩
        have HC5 : Hid (Calm wb w5) := HC4.out.trans hc5
        clear hc5 c0 c1 c2 c3 c4
        go_wp2_with fail
        refine (KC.out w5 (HCb.out.trans HC5.out)).mono ?_
        rintro e w6 ⟨rfl, hc6⟩
        have HC6 : Hid (Calm wq w6) := HCb.out.trans (HC5.out.trans hc6)
        clear hc6
        by_cases hy0 : y = 0
        · subst hy0
          have HO : Hid (entryOk z.e = true) := HOk.out
          go_wp2_with fail
          go_roundw
          case rel => exact ⟨k + 1, by omega, by go_num, okStep HZ.out HO.out HI.out, HCr.out.trans HC6.out⟩
          case measure => simp [intOf]; omega
        · have hyb : (y != 0) = true := by simpa using hy0
          have HE1 : Hid (mapE es = (k, 70)) := mapE_idx HZ.out (by rw [HOk.out]; simpa using hy0) HI.out
          clear hy0
          go_wp2_with fail
          go_ret2
          exact ⟨by rw [HE1.out]; rfl, HCr.out.trans HC6.out⟩
      · have hvb : (v != 0) = true := by simpa using hv0
        have HE1 : Hid (mapE es = (k, 70)) := mapE_idx HZ.out (by rw [HOk.out]; simp [hv0]) HI.out
        clear hv0
        go_wp2_with fail
        go_ret2
        exact ⟨by rw [HE1.out]; rfl, HCr.out.trans (HCb.out.trans HC4.out)⟩
    · obtain rfl : k = n := by omega
      have hall : Hid (∀ j q, j < es.length → es[j]? = some q → entryOk q = true) := fun j q hj => HI.out j q (by rw [← HN.out]; exact hj)
      by_cases h32 : 32 < k
      · have hE : Hid (mapE es = (0, 72)) := mapE_long hall.out (by rw [HN.out]; exact h32)
        go_wp2_with fail
        go_ret2
        exact ⟨by rw [hE.out]; rfl, HCr.out⟩
      · have h32' : k ≤ 32 := Nat.le_of_not_lt h32
        go_wp2_with fail
        go_loopw [42] (fun u wr => ∃ j : Nat, j ≤ k ∧ u = .int .i64 j ∧ Hid (Calm w wr) ∧ Hid (∀ i q, i < j → es[i]? = some q → ∃ ks, rightHs q.rule q.hs = some ks)) (fun u _ => k - (intOf u).toNat)
        case atStart => exact ⟨0, Nat.zero_le _, rfl, HCr.out, fun i q hi => absurd hi (Nat.not_lt_zero _)⟩
        case round =>
          obtain ⟨j, hj, rfl, HCj, HT⟩ := hrel
          obtain ⟨wp, rfl⟩ : ∃ wp, wp = wr := ⟨_, rfl⟩
          by_cases hlt2 : j < k
          · obtain ⟨b, o, z, rfl, hb, hz, c0, c1, c2, c3, c4, hu⟩ := (HE.out.calm HCj.out).get (k := j) (by rw [HN.out]; exact hlt2)
            obtain ⟨gr, gg⟩ := entryOk_iff.1 (hall.out j z.e (by rw [HN.out]; exact hlt2) hz)
            have hs := HS.out z.e (List.mem_of_getElem? hz)
            have huU := hu.u hs (by have := (gErr_zero gg).2.2; show z.e.reg.hs.length ≤ _; omega)
            obtain ⟨nl, hnl⟩ : ∃ nl, z.e.left.parts.length = nl := ⟨_, rfl⟩
            obtain ⟨nr, hnr⟩ : ∃ nr, z.e.right.parts.length = nr := ⟨_, rfl⟩
            obtain ⟨lr, hlr⟩ : ∃ lr, z.e.left.rest = lr := ⟨_, rfl⟩
            obtain ⟨rr, hrr⟩ : ∃ rr, z.e.right.rest = rr := ⟨_, rfl⟩
            obtain ⟨hn, hhn⟩ : ∃ hn, z.e.hs.length = hn := ⟨_, rfl⟩
            rw [hnl] at c0
            rw [hlr] at c1
            rw [hnr] at c2
            rw [hrr] at c3
            rw [hhn] at c4
            have KR0 : Hid (∀ W, Calm wp W → Calls Tryz.prog 37 #[entV z.LA z.RA z.HA nl z.lc nr z.rc hn z.hc lr rr] W fun e w' => RRightEnd z W.heap.size e w' ∧ Calm W w') := fun W hW =>
              rright_c z nl nr hn lr rr z.HA W (huU.calm hW) hs gr gg hnl hnr hhn hlr hrr rfl
            have HZ := Lib.hid hz
            obtain ⟨wb, hwb⟩ : ∃ wb, wb = wp.alloc (.cells #[.slice z.LA nl z.lc, .bool lr, .slice z.RA nr z.rc, .bool rr, .slice z.HA hn z.hc] 51) := ⟨_, rfl⟩
            have hcb : Calm wp wb := by
              show Below _ _ _
              rw [hwb]
              exact (Calm.refl _).alloc _
            have HCb := Lib.hid hcb
            have HWb := Lib.hid hwb
            rcases hrh : rightHs z.e.rule z.e.hs with _ | ks
            · have KR : Hid (∀ W, Calm wp W → Calls Tryz.prog 37 #[entV z.LA z.RA z.HA nl z.lc nr z.rc hn z.hc lr rr] W fun e w' => e = .returned (.tuple #[.agg #[.slice none 0 0, .bool false, .slice none 0 0], .bool false]) ∧ Calm W w') := fun W hW => (KR0.out W hW).mono fun e w' h => by
                obtain ⟨h1, h2⟩ := h
                unfold RRightEnd at h1
                rw [hrh] at h1
                exact ⟨h1, h2⟩
              have hE : Hid (mapE es = (0, 72)) := mapE_big hall.out hz hrh
              clear hz hu huU hs gr gg hnl hnr hlr hrr hhn hcb hwb hrh KR0
              go_wp2_with fail
              rw [← HWb.out]
              refine (KR.out wb HCb.out).mono ?_
              rintro e w3 ⟨rfl, hc3⟩
              clear c0 c1 c2 c3 c4
              go_wp2_with fail
              go_ret2
              exact ⟨by rw [hE.out]; rfl, HCj.out.trans (HCb.out.trans (hc3.trans ((Calm.refl _).alloc _)))⟩
            · obtain ⟨kn, hkn⟩ : ∃ kn, (redL z.e.right ks).length = kn := ⟨_, rfl⟩
              have KR : Hid (∀ W, Calm wp W → Calls Tryz.prog 37 #[entV z.LA z.RA z.HA nl z.lc nr z.rc hn z.hc lr rr] W fun e w' => (∃ KA kc, e = .returned (.tuple #[.agg #[.slice z.RA nr z.rc, .bool rr, .slice KA kn kc], .bool true])) ∧ Calm W w') := fun W hW => (KR0.out W hW).mono fun e w' h => by
                obtain ⟨h1, h2⟩ := h
                unfold RRightEnd at h1
                rw [hrh] at h1
                simp only [hnr, hrr, hkn] at h1
                obtain ⟨KA, kc, h1, _⟩ := h1
                exact ⟨⟨KA, kc, h1⟩, h2⟩
              have HRh := Lib.hid hrh
              clear hz hu huU hs gr gg hnl hnr hlr hrr hhn hcb hwb hrh hkn KR0
              go_wp2_with fail
              rw [← HWb.out]
              refine (KR.out wb HCb.out).mono ?_
              rintro e w3 ⟨⟨KA, kc, rfl⟩, hc3⟩
              clear c0 c1 c2 c3 c4
              have HC3 : Hid (Calm w (w3.alloc (.cells #[.slice z.RA nr z.rc, .bool rr, .slice KA kn kc] 43))) := HCj.out.trans (HCb.out.trans (hc3.trans ((Calm.refl _).alloc _)))
              clear hc3
              go_wp2_with fail
              go_roundw
              case rel =>
                refine ⟨j + 1, by omega, by go_num, HC3.out, fun i q hi hq => ?_⟩
                by_cases e : i = j
                · subst e
                  have := HZ.out
                  rw [hq] at this
                  obtain rfl := Option.some.inj this
                  exact ⟨_, HRh.out⟩
                · exact HT.out i q (by omega) hq
              case measure => simp [intOf]; omega
          · obtain rfl : k = j := by omega
            have hrs : Hid (∀ i q, i < es.length → es[i]? = some q → ∃ ks, rightHs q.rule q.hs = some ks) := fun i q hi hq => HT.out i q (by rw [← HN.out]; exact hi) hq
            go_wp2_with fail
            go_loopw [56] (fun u wr => ∃ i : Nat, i ≤ k ∧ u = .int .i64 i ∧ Hid (Calm wp wr) ∧ Hid (∀ j, j < i → clashAt es j = false)) (fun u _ => k - (intOf u).toNat)
            case atStart => exact ⟨0, Nat.zero_le _, rfl, Calm.refl _, fun j hj => absurd hj (Nat.not_lt_zero _)⟩
            case round =>
              obtain ⟨i, hi, rfl, HCi, HP⟩ := hrel
              obtain ⟨wi, rfl⟩ : ∃ wi, wi = wr := ⟨_, rfl⟩
              by_cases hlt3 : i < k
              · obtain ⟨b, o, x, rfl, hb, hx, c0, c1, c2, c3, c4, hux⟩ := HE.out.get (k := i) (by rw [HN.out]; exact hlt3)
                have HCwi : Hid (Calm w wi) := HCj.out.trans HCi.out
                have c0 := HCwi.out.at_ c0 hb
                have c1 := HCwi.out.at_ c1 hb
                have c2 := HCwi.out.at_ c2 hb
                have c3 := HCwi.out.at_ c3 hb
                have c4 := HCwi.out.at_ c4 hb
                have hb1 := Nat.lt_of_lt_of_le hb HCwi.out.size
                obtain ⟨gr, gg⟩ := entryOk_iff.1 (hall.out i x.e (by rw [HN.out]; exact hlt3) hx)
                have hs := HS.out x.e (List.mem_of_getElem? hx)
                have hxu := hux.u hs (by have := (gErr_zero gg).2.2; show x.e.reg.hs.length ≤ _; omega)
                have HXU := Lib.hid hxu
                have HXg := Lib.hid (And.intro gr gg)
                have HX := Lib.hid hx
                obtain ⟨ks, r1⟩ := hrs.out i x.e (by rw [HN.out]; exact hlt3) hx
                obtain ⟨xl, hxl⟩ : ∃ xl, x.e.left.parts.length = xl := ⟨_, rfl⟩
                obtain ⟨xr, hxr⟩ : ∃ xr, x.e.right.parts.length = xr := ⟨_, rfl⟩
                obtain ⟨xlr, hxlr⟩ : ∃ xlr, x.e.left.rest = xlr := ⟨_, rfl⟩
                obtain ⟨xrr, hxrr⟩ : ∃ xrr, x.e.right.rest = xrr := ⟨_, rfl⟩
                obtain ⟨xh, hxh⟩ : ∃ xh, x.e.hs.length = xh := ⟨_, rfl⟩
                obtain ⟨kn, hkn⟩ : ∃ kn, (redL x.e.right ks).length = kn := ⟨_, rfl⟩
                rw [hxl] at c0
                rw [hxlr] at c1
                rw [hxr] at c2
                rw [hxrr] at c3
                rw [hxh] at c4
                have HXn := Lib.hid (And.intro hxl (And.intro hxr (And.intro hxlr (And.intro hxrr hxh))))
                have KRx : Hid (∀ W, Calm w W → Calls Tryz.prog 37 #[entV x.LA x.RA x.HA xl x.lc xr x.rc xh x.hc xlr xrr] W fun e w' => (∃ KA kc, e = .returned (.tuple #[.agg #[.slice x.RA xr x.rc, .bool xrr, .slice KA kn kc], .bool true]) ∧ PatsN w' W.heap.size KA kc (redL x.e.right ks)) ∧ Calm W w') := fun W hW => by
                  have := rright_c x xl xr xh xlr xrr x.HA W (hxu.calm hW) hs gr gg hxl hxr hxh hxlr hxrr rfl
                  unfold RRightEnd at this
                  rw [r1] at this
                  simp only [hxr, hxrr, hkn] at this
                  exact this
                have HR1 := Lib.hid r1
                have HKn := Lib.hid hkn
                obtain ⟨wB, hwB⟩ : ∃ wB, wB = wi.alloc (.cells #[.slice x.LA xl x.lc, .bool xlr, .slice x.RA xr x.rc, .bool xrr, .slice x.HA xh x.hc] 51) := ⟨_, rfl⟩
                obtain ⟨BX, hBX⟩ : ∃ BX, wi.heap.size = BX := ⟨_, rfl⟩
                have hcB : Calm wi wB := by
                  show Below _ _ _
                  rw [hwB]
                  exact (Calm.refl _).alloc _
                have HFx : Hid (FiveB wB BX (.slice x.LA xl x.lc) (.bool xlr) (.slice x.RA xr x.rc) (.bool xrr) (.slice x.HA xh x.hc)) := by
                  show FiveB _ _ _ _ _ _ _
                  rw [hwB, ← hBX]
                  exact FiveB.new wi _ _ _ _ _ _
                have HCB := Lib.hid hcB
                have HWB := Lib.hid hwB
                have HBX := Lib.hid hBX
                clear hx hux hxu gr gg hs hxl hxr hxlr hxrr hxh hwB hcB hBX r1 hkn
                have hik : i ≤ c := by omega
                go_wp2_with fail
                rw [← HWB.out]
                refine (KRx.out wB (HCwi.out.trans HCB.out)).mono ?_
                rintro e w5 ⟨⟨XK, xkc, rfl, hXK⟩, hc5⟩
                rw [HBX.out]
                clear c0 c1 c2 c3 c4
                obtain ⟨w6, hw6⟩ : ∃ w6, w6 = w5.alloc (.cells #[.slice x.RA xr x.rc, .bool xrr, .slice XK kn xkc] 43) := ⟨_, rfl⟩
                obtain ⟨DX, hDX⟩ : ∃ DX, w5.heap.size = DX := ⟨_, rfl⟩
                have hg6 : RgB w6 DX (.slice x.RA xr x.rc) (.bool xrr) (.slice XK kn xkc) := by rw [hw6, ← hDX]; exact RgB.new w5 _ _ _
                have hc56 : Calm w5 w6 := by
                  show Below _ _ _
                  rw [hw6]
                  exact (Calm.refl _).alloc _
                have HG6 := Lib.hid hg6
                have HXK := Lib.hid (hXK.calm hc56)
                have HCB6 : Hid (Calm wB w6) := Calm.trans hc5 hc56
                have HW6 := Lib.hid hw6
                have HDX := Lib.hid hDX
                clear hg6 hXK hc5 hc56 hw6 hDX
                go_wp2_with fail
                rw [← HW6.out, HDX.out]
                go_loopw [70] (fun u wr => ∃ j : Nat, j ≤ i ∧ u = .int .i64 j ∧ Hid (Calm w6 wr) ∧ Hid (∀ q y, q < j → es[q]? = some y → clashE x.e y = false)) (fun u _ => i - (intOf u).toNat)
                case atStart => exact ⟨0, Nat.zero_le _, rfl, Calm.refl _, fun q y hq => absurd hq (Nat.not_lt_zero _)⟩
                case round =>
                  obtain ⟨j, hj, rfl, HCj6, HQ⟩ := hrel
                  obtain ⟨wj, rfl⟩ : ∃ wj, wj = wr := ⟨_, rfl⟩
                  by_cases hlt4 : j < i
                  · obtain ⟨b', o', y, e9, hb', hy, c0, c1, c2, c3, c4, huy⟩ := HE.out.get (k := j) (by rw [HN.out]; omega)
                    obtain ⟨rfl, rfl⟩ : b = b' ∧ o = o' := by simpa using e9
                    have HCwj : Hid (Calm w wj) := HCwi.out.trans (HCB.out.trans (HCB6.out.trans HCj6.out))
                    have c0 := HCwj.out.at_ c0 hb
                    have c1 := HCwj.out.at_ c1 hb
                    have c2 := HCwj.out.at_ c2 hb
                    have c3 := HCwj.out.at_ c3 hb
                    have c4 := HCwj.out.at_ c4 hb
                    have hb2 := Nat.lt_of_lt_of_le hb HCwj.out.size
                    obtain ⟨gr, gg⟩ := entryOk_iff.1 (hall.out j y.e (by rw [HN.out]; omega) hy)
                    have hs := HS.out y.e (List.mem_of_getElem? hy)
                    have hyU := huy.u hs (by have := (gErr_zero gg).2.2; show y.e.reg.hs.length ≤ _; omega)
                    obtain ⟨ls, r2⟩ := hrs.out j y.e (by rw [HN.out]; omega) hy
                    obtain ⟨yl, hyl⟩ : ∃ yl, y.e.left.parts.length = yl := ⟨_, rfl⟩
                    obtain ⟨yr, hyr⟩ : ∃ yr, y.e.right.parts.length = yr := ⟨_, rfl⟩
                    obtain ⟨ylr, hylr⟩ : ∃ ylr, y.e.left.rest = ylr := ⟨_, rfl⟩
                    obtain ⟨yrr, hyrr⟩ : ∃ yrr, y.e.right.rest = yrr := ⟨_, rfl⟩
                    obtain ⟨yh, hyh⟩ : ∃ yh, y.e.hs.length = yh := ⟨_, rfl⟩
                    obtain ⟨ln, hln⟩ : ∃ ln, (redL y.e.right ls).length = ln := ⟨_, rfl⟩
                    rw [hyl] at c0
                    rw [hylr] at c1
                    rw [hyr] at c2
                    rw [hyrr] at c3
                    rw [hyh] at c4
                    have KRy : Hid (∀ W, Calm w W → Calls Tryz.prog 37 #[entV y.LA y.RA y.HA yl y.lc yr y.rc yh y.hc ylr yrr] W fun e w' => (∃ KA kc, e = .returned (.tuple #[.agg #[.slice y.RA yr y.rc, .bool yrr, .slice KA ln kc], .bool true]) ∧ PatsN w' W.heap.size KA kc (redL y.e.right ls)) ∧ Calm W w') := fun W hW => by
                      have := rright_c y yl yr yh ylr yrr y.HA W (hyU.calm hW) hs gr gg hyl hyr hyh hylr hyrr rfl
                      unfold RRightEnd at this
                      rw [r2] at this
                      simp only [hyr, hyrr, hln] at this
                      exact this
                    have g1 := rightHs_good HR1.out
                    have g2 := rightHs_good r2
                    have gx64 := (gErr_zero HXg.out.2).2.2
                    have gy64 := (gErr_zero gg).2.2
                    have gx64 : x.e.hs.length ≤ 64 := gx64
                    have gy64 : y.e.hs.length ≤ 64 := gy64
                    have hxh64 : xh ≤ 64 := by rw [← HXn.out.2.2.2.2]; exact gx64
                    have hyh64 : yh ≤ 64 := by rw [← hyh]; exact gy64
                    have hkn64 : kn ≤ 64 := by have := g1.2; have := redL_len x.e.right ks; have := HKn.out; omega
                    have hln64 : ln ≤ 64 := by have := g2.2; have := redL_len y.e.right ls; omega
                    obtain ⟨v1, hv1⟩ : ∃ v1, commonG x.e.reg y.e.reg = v1 := ⟨_, rfl⟩
                    obtain ⟨v2, hv2⟩ : ∃ v2, commonG ⟨x.e.right, redL x.e.right ks⟩ ⟨y.e.right, redL y.e.right ls⟩ = v2 := ⟨_, rfl⟩
                    have HCl : Hid (clashE x.e y.e = (v1 || v2)) := by
                      show _ = _
                      rw [clashE_of HR1.out r2, hv1, ← redC HR1.out r2, hv2]
                    obtain ⟨wb, hwb⟩ : ∃ wb, wb = wj.alloc (.cells #[.slice y.LA yl y.lc, .bool ylr, .slice y.RA yr y.rc, .bool yrr, .slice y.HA yh y.hc] 51) := ⟨_, rfl⟩
                    obtain ⟨BY, hBY⟩ : ∃ BY, wj.heap.size = BY := ⟨_, rfl⟩
                    have hcb : Calm wj wb := by
                      show Below _ _ _
                      rw [hwb]
                      exact (Calm.refl _).alloc _
                    have hFy : FiveB wb BY (.slice y.LA yl y.lc) (.bool ylr) (.slice y.RA yr y.rc) (.bool yrr) (.slice y.HA yh y.hc) := by
                      rw [hwb, ← hBY]
                      exact FiveB.new wj _ _ _ _ _ _
                    have hcw : Calm w wb := HCwj.out.trans hcb
                    have HY := Lib.hid hy
                    have HYg := Lib.hid (And.intro gr gg)
                    have HYn := Lib.hid (And.intro hyl (And.intro hyr (And.intro hylr (And.intro hyrr hyh))))
                    have HYU := Lib.hid hyU
                    have HR2 := Lib.hid r2
                    have HLn := Lib.hid hln
                    have HV := Lib.hid (And.intro hv1 hv2)
                    have HFy := Lib.hid hFy
                    have HWb := Lib.hid hwb
                    have HBY := Lib.hid hBY
                    have HCjb := Lib.hid hcb
                    have HCww := Lib.hid hcw
                    have HGs := Lib.hid (And.intro hxh64 (And.intro hyh64 (And.intro hkn64 hln64)))
                    have hjk : j < k := by omega
                    clear hy huy gr gg hs hyU hyl hyr hylr hyrr hyh r2 hln g1 g2 gx64 gy64 hv1 hv2 hwb hBY hcb hFy hcw e9 hxh64 hyh64 hkn64 hln64
                    go_wp2_with fail
                    rw [← HWb.out]
                    refine (KRy.out wb HCww.out).mono ?_
                    rintro e w7 ⟨⟨YK, ykc, rfl, hYK⟩, hc7⟩
                    rw [HBY.out]
                    clear c0 c1 c2 c3 c4
                    obtain ⟨w8, hw8⟩ : ∃ w8, w8 = w7.alloc (.cells #[.slice y.RA yr y.rc, .bool yrr, .slice YK ln ykc] 43) := ⟨_, rfl⟩
                    obtain ⟨DY, hDY⟩ : ∃ DY, w7.heap.size = DY := ⟨_, rfl⟩
                    have hg8 : RgB w8 DY (.slice y.RA yr y.rc) (.bool yrr) (.slice YK ln ykc) := by rw [hw8, ← hDY]; exact RgB.new w7 _ _ _
                    have hc78 : Calm w7 w8 := by
                      show Below _ _ _
                      rw [hw8]
                      exact (Calm.refl _).alloc _
                    have hcb8 : Calm wb w8 := Calm.trans hc7 hc78
                    have hc68 : Calm w6 w8 := HCj6.out.trans (HCjb.out.trans hcb8)
                    have hcw8 : Calm w w8 := HCww.out.trans hcb8
                    have hXg := HG6.out.calm hc68
                    have hFx := HFx.out.calm (HCB6.out.trans hc68)
                    have hFy := HFy.out.calm hcb8
                    have hXP := HXK.out.calm hc68
                    have hYP := hYK.calm hc78
                    have KLx : Hid (∀ q : CalmTo w8, Calls Tryz.prog 36 #[.agg #[.slice x.LA xl x.lc, .bool xlr, .slice x.RA xr x.rc, .bool xrr, .slice x.HA xh x.hc]] q.w fun e w' => e = .returned (.agg #[.slice x.LA xl x.lc, .bool xlr, .slice x.HA xh x.hc]) ∧ Calm q.w w') := (fun q : CalmTo w8 => rleft_c x.LA x.RA x.HA xl x.lc xr x.rc xh x.hc xlr xrr q.w)
                    have KLy : Hid (∀ q : CalmTo w8, Calls Tryz.prog 36 #[.agg #[.slice y.LA yl y.lc, .bool ylr, .slice y.RA yr y.rc, .bool yrr, .slice y.HA yh y.hc]] q.w fun e w' => e = .returned (.agg #[.slice y.LA yl y.lc, .bool ylr, .slice y.HA yh y.hc]) ∧ Calm q.w w') := (fun q : CalmTo w8 => rleft_c y.LA y.RA y.HA yl y.lc yr y.rc yh y.hc ylr yrr q.w)
                    have KC1 := Lib.hid (fun q : CalmTo w8 => rcommon_c x.e.reg y.e.reg v1 xl xh yl yh xlr ylr x.LA x.lc x.HA x.hc y.LA y.lc y.HA y.hc q.w (HXU.out.l.calm (hcw8.trans q.h)) (HXU.out.h.calm (hcw8.trans q.h)) (HYU.out.l.calm (hcw8.trans q.h)) (HYU.out.h.calm (hcw8.trans q.h)) (gErr_zero HXg.out.2).1 (gErr_zero HYg.out.2).1 (gErr_zero HXg.out.2).2.1 (gErr_zero HYg.out.2).2.1 HV.out.1 HXn.out.1 HXn.out.2.2.2.2 HXn.out.2.2.1 HYn.out.1 HYn.out.2.2.2.2 HYn.out.2.2.1 (by have := HGs.out; omega))
                    have KC2 := Lib.hid (fun q : CalmTo w8 => rcommon_c ⟨x.e.right, redL x.e.right ks⟩ ⟨y.e.right, redL y.e.right ls⟩ v2 xr kn yr ln xrr yrr x.RA x.rc XK xkc y.RA y.rc YK ykc q.w (HXU.out.r.calm (hcw8.trans q.h)) ((hXP.calm q.h).reads (by have := HGs.out; have := HKn.out; omega)) (HYU.out.r.calm (hcw8.trans q.h)) ((hYP.calm q.h).reads (by have := HGs.out; have := HLn.out; omega)) (ruleErr_twin.1 HXg.out.1).rp (ruleErr_twin.1 HYg.out.1).rp (fun p hp => redL_good p hp) (fun p hp => redL_good p hp) HV.out.2 HXn.out.2.1 HKn.out HXn.out.2.2.2.1 HYn.out.2.1 HLn.out HYn.out.2.2.2.1 (by have := HGs.out; omega))
                    have s0 := fun q : CalmTo w8 => q.cell hFx.c0 hFx.lt
                    have s1 := fun q : CalmTo w8 => q.cell hFx.c1 hFx.lt
                    have s2 := fun q : CalmTo w8 => q.cell hFx.c2 hFx.lt
                    have s3 := fun q : CalmTo w8 => q.cell hFx.c3 hFx.lt
                    have s4 := fun q : CalmTo w8 => q.cell hFx.c4 hFx.lt
                    have t0 := fun q : CalmTo w8 => q.cell hFy.c0 hFy.lt
                    have t1 := fun q : CalmTo w8 => q.cell hFy.c1 hFy.lt
                    have t2 := fun q : CalmTo w8 => q.cell hFy.c2 hFy.lt
                    have t3 := fun q : CalmTo w8 => q.cell hFy.c3 hFy.lt
                    have t4 := fun q : CalmTo w8 => q.cell hFy.c4 hFy.lt
                    have P0 := fun q : CalmTo w8 => q.cell hXg.c0 hXg.lt
                    have P1 := fun q : CalmTo w8 => q.cell hXg.c1 hXg.lt
                    have P2 := fun q : CalmTo w8 => q.cell hXg.c2 hXg.lt
                    have Q0 := fun q : CalmTo w8 => q.cell hg8.c0 hg8.lt
                    have Q1 := fun q : CalmTo w8 => q.cell hg8.c1 hg8.lt
                    have Q2 := fun q : CalmTo w8 => q.cell hg8.c2 hg8.lt
                    have HW8 := Lib.hid hw8
                    have HDY := Lib.hid hDY
                    have HC68 := Lib.hid hc68
                    have HCw8 := Lib.hid hcw8
                    clear hYK hc7 hw8 hDY hg8 hc78 hcb8 hc68 hcw8 hXg hFx hFy hXP hYP
                    go_wp2_with fail
                    rw [← HW8.out, HDY.out]
                    refine wp_region_calm (by kernel_rfl) (by kernel_rfl) ?_
                    cases v1 with
                    | true =>
                      have hcl : Hid (clashE x.e y.e = true) := HCl.out
                      repeat (go_big_quiet_step (first
                        | (go_at_call 36; first | with_reducible exact calmOf (KLx.out _) | with_reducible exact calmOf (KLy.out _))
                        | (go_at_call 38; first | with_reducible exact calmOf (KC1.out _) | with_reducible exact calmOf (KC2.out _))))
                      refine wpQuiet_nil ?_
                      intro w9 hc9
                      have HE : Hid (mapE es = (i, 71)) := mapE_over hall.out (by rw [HN.out]; exact h32') hrs.out (by rw [HN.out]; exact hlt3) (clashAt_true HX.out HY.out hlt4 hcl.out) HP.out
                      have HC9 := Lib.hid (HCw8.out.trans hc9)
                      clear hc9 s0 s1 s2 s3 s4 t0 t1 t2 t3 t4 P0 P1 P2 Q0 Q1 Q2
                      go_wp2
                      go_ret2
                      exact ⟨by rw [HE.out]; rfl, HC9.out⟩
                    | false =>
                      have hcl : Hid (clashE x.e y.e = v2) := HCl.out
                      repeat (go_big_quiet_step (first
                        | (go_at_call 36; first | with_reducible exact calmOf (KLx.out _) | with_reducible exact calmOf (KLy.out _))
                        | (go_at_call 38; first | with_reducible exact calmOf (KC1.out _) | with_reducible exact calmOf (KC2.out _))))
                      refine wpQuiet_nil ?_
                      intro w9 hc9
                      have HC9 := Lib.hid (HCw8.out.trans hc9)
                      have HC9B := Lib.hid (HC68.out.trans hc9)
                      clear hc9 s0 s1 s2 s3 s4 t0 t1 t2 t3 t4 P0 P1 P2 Q0 Q1 Q2
                      cases v2 with
                      | true =>
                        have HE : Hid (mapE es = (i, 71)) := mapE_over hall.out (by rw [HN.out]; exact h32') hrs.out (by rw [HN.out]; exact hlt3) (clashAt_true HX.out HY.out hlt4 hcl.out) HP.out
                        go_wp2
                        go_ret2
                        exact ⟨by rw [HE.out]; rfl, HC9.out⟩
                      | false =>
                        go_wp2
                        go_roundw
                        case rel => exact ⟨j + 1, by omega, by go_num, HC9B.out, none_step (pr := fun q : Ent => clashE x.e q) HY.out hcl.out HQ.out⟩
                        case measure => simp [intOf]; omega
                  · obtain rfl : j = i := by omega
                    have hcl : clashAt es j = false := clashAt_false HX.out HQ.out
                    go_wp2_with fail
                    go_roundw
                    case rel => exact ⟨j + 1, by omega, by go_num, HCi.out.trans (HCB.out.trans (HCB6.out.trans HCj6.out)), clashStep hcl HP.out⟩
                    case measure => simp [intOf]; omega
              · obtain rfl : i = k := by omega
                have hE : Hid (mapE es = (0, 0)) := mapE_fine hall.out (by rw [HN.out]; exact h32') hrs.out (fun j hj => HP.out j (by rw [← HN.out]; exact hj))
                go_wp2_with fail
                go_ret2
                exact ⟨by rw [hE.out]; rfl, HCj.out.trans HCi.out⟩
end Go.Proofs.YtmfjppaeddbdaaaGreatDoor
set_option linter.unusedVariables false
set_option linter.unusedSimpArgs false
namespace Go.Proofs.YtmfjppaeddbdaaaGreatDoor
open Go Go.RowKit Sy
def EntOutR (es : List Ent) (er : Int) (e : Ending) (w' : World) : Prop := ∃ A c, e = .returned (.tuple #[.slice A es.length c, .int .i64 er]) ∧ es.length ≤ c ∧ c ≤ 9223372036854775807 ∧ EntsR w' A es
theorem EntOut.r {es : List Ent} {er : Int} {B : Nat} {e : Ending} {w' : World} (h : EntOut es er B e w') : EntOutR es er e w' := by
  obtain ⟨A, c, h1, h2, h3, zs, h4, h5, h6⟩ := h
  exact ⟨A, c, h1, h2, h3, zs, h4, h5, fun z hz => (h6 z hz).u⟩

end Go.Proofs.YtmfjppaeddbdaaaGreatDoor
