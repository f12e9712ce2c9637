/- The law RegionMeetMeans: its walk. -/
import Derived.Test.YtdndfkoklhfffaaGreatDoorLawKeeps
set_option linter.unusedVariables false
set_option linter.unusedSimpArgs false
namespace Go.Proofs.YtdndfkoklhfffaaGreatDoor
open Go Go.RowKit Sy

set_option maxRecDepth 100000 in
set_option maxHeartbeats 16000000 in
theorem meetmeans_law_c (b : Pat) (hs : List Pat) (b2 : Pat) (hs2 : List Pat) (s : Str) (A : Option Addr) (c : Nat) (HA : Option Addr) (hc : Nat) (A2 : Option Addr) (c2 : Nat) (HA2 : Option Addr) (hc2 : Nat) (w : World) (hsz : s.length ≤ 9223372036854775807)
    (hb : StrsG w A b.parts) (hh : PatsG w HA hs) (hbc : b.parts.length ≤ c) (hcc : c ≤ 9223372036854775807) (hhc : hs.length ≤ hc) (hhcc : hc ≤ 9223372036854775807)
    (hb2 : StrsG w A2 b2.parts) (hh2 : PatsG w HA2 hs2) (hbc2 : b2.parts.length ≤ c2) (hcc2 : c2 ≤ 9223372036854775807) (hhc2 : hs2.length ≤ hc2) (hhcc2 : hc2 ≤ 9223372036854775807) (hT : Tab w) (hM : MaxL w) :
    Calls Tryz.prog 6 #[.agg #[.slice A b.parts.length c, .bool b.rest, .slice HA hs.length hc], .agg #[.slice A2 b2.parts.length c2, .bool b2.rest, .slice HA2 hs2.length hc2], .string (bs s)] w fun e w' => e = .returned (.bool true) ∧ Calm w w' := by
  obtain ⟨hn, hhn⟩ : ∃ hn, hs.length = hn := ⟨_, rfl⟩
  obtain ⟨bn, hbn⟩ : ∃ bn, b.parts.length = bn := ⟨_, rfl⟩
  obtain ⟨br, hbr⟩ : ∃ br, b.rest = br := ⟨_, rfl⟩
  obtain ⟨hn2, hhn2⟩ : ∃ hn, hs2.length = hn := ⟨_, rfl⟩
  obtain ⟨bn2, hbn2⟩ : ∃ bn, b2.parts.length = bn := ⟨_, rfl⟩
  obtain ⟨br2, hbr2⟩ : ∃ br, b2.rest = br := ⟨_, rfl⟩
  obtain ⟨w1, hw1⟩ : ∃ w1, w1 = (w.alloc (.cells #[.slice A bn c, .bool br, .slice HA hn hc] 27)).alloc (.cells #[.slice A2 bn2 c2, .bool br2, .slice HA2 hn2 hc2] 27) := ⟨_, rfl⟩
  have hc1 : Calm w w1 := by rw [hw1]; exact ((Calm.refl w).alloc _).alloc _
  have hbox : Box2 w1 w.heap.size A bn c br HA hn hc A2 bn2 c2 br2 HA2 hn2 hc2 := by rw [hw1]; exact box2_new w A bn c br HA hn hc A2 bn2 c2 br2 HA2 hn2 hc2
  have K1 := small_v b hs bn hn br A c HA hc w1 (hb.calm hc1) (hh.calm hc1) hbc hcc hhc hhcc hbn hhn hbr
  have K2 : Hid (∀ W, Calm w1 W → Calls Tryz.prog 8 #[.agg #[.slice A2 bn2 c2, .bool br2, .slice HA2 hn2 hc2]] W fun e w' => SmallEnd b2 hs2 e ∧ Calm W w') := fun W hW => small_v b2 hs2 bn2 hn2 br2 A2 c2 HA2 hc2 W ((hb2.calm hc1).calm hW) ((hh2.calm hc1).calm hW) hbc2 hcc2 hhc2 hhcc2 hbn2 hhn2 hbr2
  have HW := Lib.hid hw1
  have HC := Lib.hid hc1
  have HT := Lib.hid (hT.calm hc1)
  have HM := Lib.hid (hM.calm hc1)
  have HB := Lib.hid hbox
  have HReg : Hid (SmallB b hs → RegA w1 A c HA b hs) := fun h => h.reg (hb.calm hc1) (hh.calm hc1) hbc hcc
  have HReg2 : Hid (SmallB b2 hs2 → RegA w1 A2 c2 HA2 b2 hs2) := fun h => h.reg (hb2.calm hc1) (hh2.calm hc1) hbc2 hcc2
  have HN : Hid (hs.length = hn ∧ b.parts.length = bn ∧ b.rest = br) := ⟨hhn, hbn, hbr⟩
  have HN2 : Hid (hs2.length = hn2 ∧ b2.parts.length = bn2 ∧ b2.rest = br2) := ⟨hhn2, hbn2, hbr2⟩
  rw [hhn, hbn, hbr, hhn2, hbn2, hbr2]
  have hss := bs_size s
  clear hw1 hc1 hb hh hb2 hh2 hT hM hhn hbn hbr hbc hhc hhn2 hbn2 hbr2 hbc2 hhc2 hbox
  go_enter Tryz.func6, Tryz.ntmps6
  go_wp2_with fail
  rw [← HW.out]
  refine K1.mono ?_
  rintro e w2 ⟨⟨r1, rfl, hr1⟩, hc2'⟩
  have y0 := (HB.out.calm hc2').y0
  have y1 := (HB.out.calm hc2').y1
  have y2 := (HB.out.calm hc2').y2
  cases r1 with
  | false =>
    go_wp2_with (go_at_call 9; refine (awake_c _ (HT.out.calm hc2')).mono ?_; rintro e w3 ⟨rfl, hc3⟩)
    go_ret
    exact ⟨rfl, HC.out.trans (hc2'.trans hc3)⟩
  | true =>
    have HSa := Lib.hid (hr1 rfl)
    have HC2 := Lib.hid hc2'
    clear hr1 hc2' K1
    go_wp2_with fail
    refine (K2.out w2 HC2.out).mono ?_
    rintro e w3 ⟨⟨r2, rfl, hr2⟩, hc3⟩
    have HC3 := Lib.hid (HC2.out.trans hc3)
    clear y0 y1 y2
    cases r2 with
    | false =>
      go_wp2_with (go_at_call 9; refine (awake_c _ (HT.out.calm HC3.out)).mono ?_; rintro e w4 ⟨rfl, hc4⟩)
      go_ret
      exact ⟨rfl, HC.out.trans (HC3.out.trans hc4)⟩
    | true =>
      by_cases hlen : 300 < s.length
      · go_wp2_with (go_at_call 9; refine (awake_c _ (HT.out.calm HC3.out)).mono ?_; rintro e w4 ⟨rfl, hc4⟩)
        go_ret
        exact ⟨rfl, HC.out.trans (HC3.out.trans hc4)⟩
      · have hn70 : hn ≤ 70 := by have := HSa.out.holes; rw [HN.out.1] at this; exact this
        have hn702 : hn2 ≤ 70 := by have := (hr2 rfl).holes; rw [HN2.out.1] at this; exact this
        have HX := Lib.hid (HReg.out HSa.out)
        have HY := Lib.hid (HReg2.out (hr2 rfl))
        obtain ⟨x, hx⟩ : ∃ x : Reg, x = ⟨b, hs⟩ := ⟨_, rfl⟩
        obtain ⟨y, hy⟩ : ∃ y : Reg, y = ⟨b2, hs2⟩ := ⟨_, rfl⟩
        have HX' : Hid (RegA w1 A c HA x.b x.hs ∧ x.hs.length = hn ∧ x.b.parts.length = bn ∧ x.b.rest = br) := by rw [hx]; exact ⟨HX.out, HN.out⟩
        have HY' : Hid (RegA w1 A2 c2 HA2 y.b y.hs ∧ y.hs.length = hn2 ∧ y.b.parts.length = bn2 ∧ y.b.rest = br2) := by rw [hy]; exact ⟨HY.out, HN2.out⟩
        obtain ⟨G, hG⟩ : ∃ G, (meetR x y).1.getD zeroReg = G := ⟨_, rfl⟩
        obtain ⟨ok, hok⟩ : ∃ ok, (meetR x y).1.isSome = ok := ⟨_, rfl⟩
        obtain ⟨er, her⟩ : ∃ er, (meetR x y).2 = er := ⟨_, rfl⟩
        obtain ⟨er2, her2⟩ : ∃ er, (meetR y x).2 = er := ⟨_, rfl⟩
        obtain ⟨be, hbe⟩ : ∃ be, (er == 0) = be := ⟨_, rfl⟩
        have hbe2 : (er2 == 0) = be := by
          have := (meetR_comm x y).2
          rw [her, her2] at this
          rw [← hbe, Bool.eq_iff_iff, beq_iff_eq, beq_iff_eq]
          exact this.symm
        obtain ⟨gn, hgn⟩ : ∃ gn, G.b.parts.length = gn := ⟨_, rfl⟩
        obtain ⟨gm, hgm⟩ : ∃ gm, G.hs.length = gm := ⟨_, rfl⟩
        obtain ⟨gr, hgr⟩ : ∃ gr, G.b.rest = gr := ⟨_, rfl⟩
        obtain ⟨va, hva⟩ : ∃ v, hasT x s = v := ⟨_, rfl⟩
        obtain ⟨vb, hvb⟩ : ∃ v, hasT y s = v := ⟨_, rfl⟩
        obtain ⟨vg, hvg⟩ : ∃ v, hasT G s = v := ⟨_, rfl⟩
        have hmeans : be = true → (ok && vg) = (va && vb) := fun e => by
          have h0 : (meetR x y).2 = 0 := by rw [her]; rw [← hbe] at e; simpa using e
          have := hasT_meet h0 s
          rw [hva, hvb] at this
          rw [← this, ← hok, ← hvg, ← hG]
          rcases (meetR x y).1 with _ | g <;> rfl
        have KM1 : Hid (∀ W, Calm w1 W → Calls Tryz.prog 10 #[.agg #[.slice A bn c, .bool br, .slice HA hn hc], .agg #[.slice A2 bn2 c2, .bool br2, .slice HA2 hn2 hc2]] W fun e w' => (∃ A3 c3 HA3 hc3, e = .returned (.tuple #[.agg #[.slice A3 gn c3, .bool gr, .slice HA3 gm hc3], .bool ok, .int .i64 er]) ∧ RegA w' A3 c3 HA3 G.b G.hs) ∧ Calm W w') := fun W hW =>
          gmeet_v x y G ok er gn gm gr bn hn bn2 hn2 br br2 A c HA hc A2 c2 HA2 hc2 W (HX'.out.1.calm hW) (HY'.out.1.calm hW) HX'.out.2.2.1 HX'.out.2.1 HX'.out.2.2.2 HY'.out.2.2.1 HY'.out.2.1 HY'.out.2.2.2 (by omega) hG hok her hgn hgm hgr
        have KM2 : Hid (∀ W, Calm w1 W → Calls Tryz.prog 10 #[.agg #[.slice A2 bn2 c2, .bool br2, .slice HA2 hn2 hc2], .agg #[.slice A bn c, .bool br, .slice HA hn hc]] W fun e w' => (∃ A3 c3 HA3 hc3, e = .returned (.tuple #[.agg #[.slice A3 gn c3, .bool gr, .slice HA3 gm hc3], .bool ok, .int .i64 er2]) ∧ RegA w' A3 c3 HA3 G.b G.hs) ∧ Calm W w') := fun W hW =>
          gmeet_v y x G ok er2 gn gm gr bn2 hn2 bn hn br2 br A2 c2 HA2 hc2 A c HA hc W (HY'.out.1.calm hW) (HX'.out.1.calm hW) HY'.out.2.2.1 HY'.out.2.1 HY'.out.2.2.2 HX'.out.2.2.1 HX'.out.2.1 HX'.out.2.2.2 (by omega) (by rw [← (meetR_comm x y).1]; exact hG) (by rw [← (meetR_comm x y).1]; exact hok) her2 hgn hgm hgr
        obtain ⟨G2, hG2⟩ : ∃ G2, simpR x = G2 := ⟨_, rfl⟩
        obtain ⟨G3, hG3⟩ : ∃ G3, (meetR x x).1.getD zeroReg = G3 := ⟨_, rfl⟩
        obtain ⟨ok3, hok3⟩ : ∃ ok, (meetR x x).1.isSome = ok := ⟨_, rfl⟩
        obtain ⟨v, hv⟩ : ∃ v, gErr x = v := ⟨_, rfl⟩
        have hv3 : (meetR x x).2 = v := (meetR_self x).1.trans hv
        have hG23 : ok3 = true → G3 = G2 := fun e => by
          rcases hm : (meetR x x).1 with _ | g
          · rw [hm] at hok3
            rw [← hok3] at e
            cases e
          · have h1 := (meetR_self x).2 g hm
            have h0 := (meetR_some hm).1
            rw [← hG3, ← hG2, hm, simpR, if_pos h0]
            exact h1
        obtain ⟨pn, hpn⟩ : ∃ gn, G2.b.parts.length = gn := ⟨_, rfl⟩
        obtain ⟨pm, hpm⟩ : ∃ gm, G2.hs.length = gm := ⟨_, rfl⟩
        obtain ⟨pr, hpr⟩ : ∃ gr, G2.b.rest = gr := ⟨_, rfl⟩
        obtain ⟨qn, hqn⟩ : ∃ gn, G3.b.parts.length = gn := ⟨_, rfl⟩
        obtain ⟨qm, hqm⟩ : ∃ gm, G3.hs.length = gm := ⟨_, rfl⟩
        obtain ⟨qr, hqr⟩ : ∃ gr, G3.b.rest = gr := ⟨_, rfl⟩
        have KP : Hid (∀ W, Calm w1 W → Calls Tryz.prog 15 #[.agg #[.slice A bn c, .bool br, .slice HA hn hc]] W fun e w' => (∃ A3 c3 HA3 hc3, e = .returned (.tuple #[.agg #[.slice A3 pn c3, .bool pr, .slice HA3 pm hc3], .int .i64 v]) ∧ RegA w' A3 c3 HA3 G2.b G2.hs) ∧ Calm W w') := fun W hW =>
          simp_v x G2 v pn pm pr bn hn br A c HA hc W (HX'.out.1.calm hW) HX'.out.2.2.1 HX'.out.2.1 HX'.out.2.2.2 hG2 hv hpn hpm hpr
        have KM3 : Hid (∀ W, Calm w1 W → Calls Tryz.prog 10 #[.agg #[.slice A bn c, .bool br, .slice HA hn hc], .agg #[.slice A bn c, .bool br, .slice HA hn hc]] W fun e w' => (∃ A3 c3 HA3 hc3, e = .returned (.tuple #[.agg #[.slice A3 qn c3, .bool qr, .slice HA3 qm hc3], .bool ok3, .int .i64 v]) ∧ RegA w' A3 c3 HA3 G3.b G3.hs) ∧ Calm W w') := fun W hW =>
          gmeet_v x x G3 ok3 v qn qm qr bn hn bn hn br br A c HA hc A c HA hc W (HX'.out.1.calm hW) (HX'.out.1.calm hW) HX'.out.2.2.1 HX'.out.2.1 HX'.out.2.2.2 HX'.out.2.2.1 HX'.out.2.1 HX'.out.2.2.2 (by omega) hG3 hok3 hv3 hqn hqm hqr
        have HG := Lib.hid (And.intro hgn (And.intro hgm hgr))
        have HP := Lib.hid (And.intro hpn (And.intro hpm hpr))
        have HQ := Lib.hid (And.intro hqn (And.intro hqm hqr))
        have HG23 := Lib.hid hG23
        have HMeans := Lib.hid hmeans
        have HVv := Lib.hid (And.intro hva (And.intro hvb hvg))
        have hs300 : s.length ≤ 10000 := by omega
        have HS300 := Lib.hid hs300
        clear hx hy HX HY HN HN2 HSa hr2 HReg HReg2 hG hok her her2 hgn hgm hgr hva hvb hvg hmeans hG2 hG3 hok3 hv hv3 hG23 hpn hpm hpr hqn hqm hqr K2 hc3 hs300
        have b3 := HB.out.calm HC3.out
        have x0 := b3.x0
        have x1 := b3.x1
        have x2 := b3.x2
        have y0 := b3.y0
        have y1 := b3.y1
        have y2 := b3.y2
        clear b3
        go_wp2_with fail
        refine (KM1.out w3 HC3.out).mono ?_
        rintro e w4 ⟨⟨A4, c4, HA4, hc4, rfl, hr4⟩, hcc4⟩
        clear x0 x1 x2 y0 y1 y2
        go_upto_region 4 with (fail)
        obtain ⟨w5, hw5⟩ : ∃ w5, w5 = w4.alloc (.cells #[.slice A4 gn c4, .bool gr, .slice HA4 gm hc4] 27) := ⟨_, rfl⟩
        rw [← hw5]
        have hcc5 : Calm w4 w5 := by rw [hw5]; exact (Calm.refl w4).alloc _
        have HB5 : Hid (BoxR w5 w4.heap.size A4 gn c4 gr HA4 gm hc4) := by rw [hw5]; exact boxR_new w4 A4 gn c4 gr HA4 gm hc4
        have HR5 := Lib.hid (hr4.calm hcc5)
        have HC5 := Lib.hid (HC3.out.trans (hcc4.trans hcc5))
        clear hw5 hcc4 hcc5 hr4
        go_cut [57] (fun u wx => u = .bool false ∧ Hid (Calm w5 wx))
        case first =>
          have hB5 := HB5.out
          have hB2 := HB.out.calm HC5.out
          have hlt0 : w.heap.size < w5.heap.size := by have := hB2.size; omega
          have hlt1 : w.heap.size + 1 < w5.heap.size := by have := hB2.size; omega
          have KH1 := Lib.hid (fun q : CalmTo w5 => has_v G s vg gn gm gr A4 c4 HA4 hc4 q.w HS300.out (HR5.out.calm q.h) (HM.out.calm (HC5.out.trans q.h)) HVv.out.2.2 HG.out.1 HG.out.2.1 HG.out.2.2)
          have KH2 := Lib.hid (fun q : CalmTo w5 => has_v x s va bn hn br A c HA hc q.w HS300.out (HX'.out.1.calm (HC5.out.trans q.h)) (HM.out.calm (HC5.out.trans q.h)) HVv.out.1 HX'.out.2.2.1 HX'.out.2.1 HX'.out.2.2.2)
          have KH3 := Lib.hid (fun q : CalmTo w5 => has_v y s vb bn2 hn2 br2 A2 c2 HA2 hc2 q.w HS300.out (HY'.out.1.calm (HC5.out.trans q.h)) (HM.out.calm (HC5.out.trans q.h)) HVv.out.2.1 HY'.out.2.2.1 HY'.out.2.1 HY'.out.2.2.2)
          have e0 := fun q : CalmTo w5 => q.cell hB5.x0 hB5.lt
          have e1 := fun q : CalmTo w5 => q.cell hB5.x1 hB5.lt
          have e2 := fun q : CalmTo w5 => q.cell hB5.x2 hB5.lt
          have e3 := fun q : CalmTo w5 => q.cell hB2.x0 hlt0
          have e4 := fun q : CalmTo w5 => q.cell hB2.x1 hlt0
          have e5 := fun q : CalmTo w5 => q.cell hB2.x2 hlt0
          have e6 := fun q : CalmTo w5 => q.cell hB2.y0 hlt1
          have e7 := fun q : CalmTo w5 => q.cell hB2.y1 hlt1
          have e8 := fun q : CalmTo w5 => q.cell hB2.y2 hlt1
          clear hB5 hB2 hlt0 hlt1 KM1 KM2 KM3 KP
          cases be with
          | false =>
            refine wp_region_calm (by kernel_rfl) (by kernel_rfl) ?_
            repeat (go_big_quiet_step (fail))
            refine wpQuiet_nil ?_
            intro w7 hc7
            go_wp2_with fail
            go_meet
            case rel => exact ⟨rfl, hc7⟩
          | true =>
            have hme := HMeans.out rfl
            cases ok <;> cases va <;> cases vb <;> cases vg
            all_goals first | (exact absurd hme (by decide)) | skip
            all_goals
              clear hme HMeans
              refine wp_region_calm (by kernel_rfl) (by kernel_rfl) ?_
              repeat (go_big_quiet_step ((first
                | (go_at_call 17; with_reducible exact calmOf (KH1.out _))
                | (go_at_call 17; with_reducible exact calmOf (KH2.out _))
                | (go_at_call 17; with_reducible exact calmOf (KH3.out _)))))
              refine wpQuiet_nil ?_
              intro w7 hc7
              go_wp2_with fail
              go_meet
              case rel => exact ⟨rfl, hc7⟩
        case rest =>
          obtain ⟨rfl, HC7⟩ := hcut
          have HCw := Lib.hid (HC5.out.trans HC7.out)
          have b7 := HB.out.calm HCw.out
          have x0 := b7.x0
          have x1 := b7.x1
          have x2 := b7.x2
          have y0 := b7.y0
          have y1 := b7.y1
          have y2 := b7.y2
          have HB7 := Lib.hid b7
          clear b7
          go_wp2_with fail
          refine (KM2.out wc HCw.out).mono ?_
          rintro e w8 ⟨⟨A8, c8, HA8, hc8, rfl, hr8⟩, hcc8⟩
          obtain ⟨w9, hw9⟩ : ∃ w9, w9 = w8.alloc (.cells #[.slice A8 gn c8, .bool gr, .slice HA8 gm hc8] 27) := ⟨_, rfl⟩
          have hcc9 : Calm w8 w9 := by rw [hw9]; exact (Calm.refl w8).alloc _
          have HB9 : Hid (BoxR w9 w8.heap.size A8 gn c8 gr HA8 gm hc8) := by rw [hw9]; exact boxR_new w8 A8 gn c8 gr HA8 gm hc8
          have g5 := HB5.out.calm (HC7.out.trans hcc8)
          have p0 := g5.x0
          have p1 := g5.x1
          have p2 := g5.x2
          have plt := g5.lt
          have KS : Hid (∀ W, Calm w9 W → Calls Tryz.prog 12 #[.agg #[.slice A4 gn c4, .bool gr, .slice HA4 gm hc4], .agg #[.slice A8 gn c8, .bool gr, .slice HA8 gm hc8]] W fun e w' => e = .returned (.bool true) ∧ Calm W w') := fun W hW =>
            rsameg_v G gn gm gr A4 c4 HA4 hc4 A8 c8 HA8 hc8 W (HR5.out.calm (HC7.out.trans (hcc8.trans (hcc9.trans hW)))) (hr8.calm (hcc9.trans hW)) HG.out.1 HG.out.2.1 HG.out.2.2
          have HW9 := Lib.hid hw9
          have HC9 := Lib.hid (HCw.out.trans (hcc8.trans hcc9))
          clear hw9 hcc8 hcc9 g5 hr8 x0 x1 x2 y0 y1 y2
          go_wp2_with fail
          rw [← HW9.out]
          refine (KS.out w9 (Calm.refl _)).mono ?_
          rintro e w10 ⟨rfl, hcc10⟩
          have HC10 := Lib.hid (HC9.out.trans hcc10)
          have b10 := HB.out.calm HC10.out
          have x0 := b10.x0
          have x1 := b10.x1
          have x2 := b10.x2
          clear b10 hcc10 KS p0 p1 p2 plt
          go_wp2_with fail
          refine (KP.out w10 HC10.out).mono ?_
          rintro e w11 ⟨⟨A11, c11, HA11, hc11, rfl, hr11⟩, hcc11⟩
          have HC11 := Lib.hid (HC10.out.trans hcc11)
          obtain ⟨w12, hw12⟩ : ∃ w12, w12 = w11.alloc (.cells #[.slice A11 pn c11, .bool pr, .slice HA11 pm hc11] 27) := ⟨_, rfl⟩
          have hcc12 : Calm w11 w12 := by rw [hw12]; exact (Calm.refl w11).alloc _
          have HB12 : Hid (BoxR w12 w11.heap.size A11 pn c11 pr HA11 pm hc11) := by rw [hw12]; exact boxR_new w11 A11 pn c11 pr HA11 pm hc11
          have HR12 := Lib.hid (hr11.calm hcc12)
          have b11 := HB.out.calm HC11.out
          clear x0 x1 x2
          have x0 := b11.x0
          have x1 := b11.x1
          have x2 := b11.x2
          have xlt : w.heap.size < w11.heap.size := by have := b11.size; omega
          have HC12 := Lib.hid (HC11.out.trans hcc12)
          have HW12 := Lib.hid hw12
          clear b11 hw12 hcc12 hcc11 hr11
          go_wp2_with fail
          rw [← HW12.out]
          refine (KM3.out w12 HC12.out).mono ?_
          rintro e w13 ⟨⟨A13, c13, HA13, hc13, rfl, hr13⟩, hcc13⟩
          obtain ⟨w14, hw14⟩ : ∃ w14, w14 = w13.alloc (.cells #[.slice A13 qn c13, .bool qr, .slice HA13 qm hc13] 27) := ⟨_, rfl⟩
          have hcc14 : Calm w13 w14 := by rw [hw14]; exact (Calm.refl w13).alloc _
          have HB14 : Hid (BoxR w14 w13.heap.size A13 qn c13 qr HA13 qm hc13) := by rw [hw14]; exact boxR_new w13 A13 qn c13 qr HA13 qm hc13
          have HC14 := Lib.hid (HC12.out.trans (hcc13.trans hcc14))
          have HW14 := Lib.hid hw14
          have HA14 : Hid (∀ W, Calm w14 W → Calls Tryz.prog 9 #[] W fun e w' => e = .returned (.bool true) ∧ Calm W w') := fun W hW => awake_c W (HT.out.calm (HC14.out.trans hW))
          have s5 := HB12.out.calm hcc13
          have s0 := s5.x0
          have s1 := s5.x1
          have s2 := s5.x2
          have slt := s5.lt
          have HCC := Lib.hid (hcc13.trans hcc14)
          have HR14 := Lib.hid (hr13.calm hcc14)
          clear hw14 hcc13 hcc14 hr13 x0 x1 x2 xlt s5
          cases ok3 with
          | false =>
            go_wp2_with (go_at_call 9; rw [← HW14.out]; refine (HA14.out w14 (Calm.refl _)).mono ?_; rintro e w15 ⟨rfl, hc15⟩)
            go_ret
            exact ⟨rfl, HC.out.trans (HC14.out.trans hc15)⟩
          | true =>
            have he := HG23.out rfl
            have KS : Hid (∀ W, Calm w14 W → Calls Tryz.prog 12 #[.agg #[.slice A11 pn c11, .bool pr, .slice HA11 pm hc11], .agg #[.slice A13 qn c13, .bool qr, .slice HA13 qm hc13]] W fun e w' => e = .returned (.bool true) ∧ Calm W w') := fun W hW => by
              have e1 : qn = pn := by rw [← HQ.out.1, ← HP.out.1, he]
              have e2 : qm = pm := by rw [← HQ.out.2.1, ← HP.out.2.1, he]
              have e3 : qr = pr := by rw [← HQ.out.2.2, ← HP.out.2.2, he]
              rw [e1, e2, e3]
              have h14 := HR14.out.calm hW
              rw [he] at h14
              exact rsameg_v G2 pn pm pr A11 c11 HA11 hc11 A13 c13 HA13 hc13 W (HR12.out.calm (HCC.out.trans hW)) h14 HP.out.1 HP.out.2.1 HP.out.2.2
            clear he
            go_wp2_with (first
              | (go_at_call 12; rw [← HW14.out]; refine (KS.out w14 (Calm.refl _)).mono ?_; rintro e w15 ⟨rfl, hc15⟩)
              | (go_at_call 9; refine (HA14.out w15 hc15).mono ?_; rintro e w16 ⟨rfl, hc16⟩))
            go_ret
            exact ⟨rfl, HC.out.trans (HC14.out.trans (hc15.trans hc16))⟩
end Go.Proofs.YtdndfkoklhfffaaGreatDoor
