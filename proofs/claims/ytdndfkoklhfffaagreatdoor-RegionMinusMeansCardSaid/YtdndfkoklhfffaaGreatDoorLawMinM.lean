/- The law RegionMinusMeans: its walk. -/
import Derived.Test.YtdndfkoklhfffaaGreatDoorLawKeeps
import Derived.Test.YtdndfkoklhfffaaGreatDoorMinus
set_option linter.unusedVariables false
set_option linter.unusedSimpArgs false
namespace Go.Proofs.YtdndfkoklhfffaaGreatDoor
open Go Go.RowKit Sy

theorem gminus_v (x y : Reg) (gs : List Reg) (er : Int) (L n m n' m' : Nat) (re re' : Bool) (A : Option Addr) (c : Nat) (HA : Option Addr) (hc : Nat) (A' : Option Addr) (c' : Nat) (HA' : Option Addr) (hc' : Nat) (w : World) (h : RegA w A c HA x.b x.hs) (h' : RegA w A' c' HA' y.b y.hs)
    (hn : x.b.parts.length = n) (hm : x.hs.length = m) (hre : x.b.rest = re) (hn' : y.b.parts.length = n') (hm' : y.hs.length = m') (hre' : y.b.rest = re') (hl : m + m' ≤ 1000) (hmc : m ≤ hc) (hmc63 : hc ≤ 9223372036854775807) (hgs : (minusR x y).1 = gs) (her : (minusR x y).2 = er) (hL : gs.length = L) :
    Calls Tryz.prog 13 #[.agg #[.slice A n c, .bool re, .slice HA m hc], .agg #[.slice A' n' c', .bool re', .slice HA' m' hc']] w fun e w' => (∃ A3 c3 l, e = .returned (.tuple #[.slice A3 L c3, .int .i64 er]) ∧ l.map (·.g) = gs ∧ (∀ z ∈ l, RegA w' z.A z.c z.HA z.g.b z.g.hs) ∧ ReadX encG 3 w' A3 l ∧ L ≤ 10000) ∧ Calm w w' := by
  refine (gminus_c x y n m n' m' re re' A c HA hc A' c' HA' hc' w h h' hn hm hre hn' hm' hre' hl hmc hmc63).mono ?_
  rintro e w' ⟨⟨A3, c3, l, rfl, hmp, hr, hx, hl2, _, _⟩, hcm⟩
  have hlen : l.length = L := by rw [← hL, ← hgs, ← hmp, List.length_map]
  exact ⟨⟨A3, c3, l, by rw [hlen, her], hmp.trans hgs, hr, hx, by omega⟩, hcm⟩
theorem empty_g (g : Reg) (v : Int) (r : Bool) (n m : Nat) (re : Bool) (A : Option Addr) (c : Nat) (HA : Option Addr) (hc : Nat) (w : World) (h : RegA w A c HA g.b g.hs) (hv : gErr g = v) (hr : (v == 0 && gLen g == 0) = r) (hn : g.b.parts.length = n) (hm : g.hs.length = m) (hre : g.b.rest = re) :
    Calls Tryz.prog 18 #[.agg #[.slice A n c, .bool re, .slice HA m hc]] w fun e w' => e = .returned (.tuple #[.bool r, .int .i64 v]) ∧ Calm w w' := by
  subst hn hm hre
  have := empty_c g.b g.hs A c HA hc w h.base h.room h.cap h.holes
  have e : emptyVal g.b g.hs = .tuple #[.bool r, .int .i64 v] := by
    have hv' : regErr g.b g.hs = v := hv
    unfold emptyVal
    rw [← hr, hv']
    by_cases h0 : v = 0
    · subst h0; simp [void, gLen]
    · simp [h0]
  rw [e] at this
  exact this
/-- How many of the first i regions have the path. -/
def cntTo (l : List NewG) (s : Str) (i : Nat) : Nat := (l.take i).countP fun z => hasT z.g s
theorem cntTo_succ {l : List NewG} {s : Str} {i : Nat} {z : NewG} (h : l[i]? = some z) : cntTo l s (i + 1) = cntTo l s i + (if hasT z.g s then 1 else 0) := by
  obtain ⟨hlt, rfl⟩ := List.getElem?_eq_some_iff.1 h
  unfold cntTo
  rw [List.take_succ_eq_append_getElem hlt, List.countP_append]
  by_cases h2 : hasT l[i].g s = true <;> simp [h2]
theorem cntTo_all (l : List NewG) (s : Str) : cntTo l s l.length = (l.map (·.g)).countP fun g => hasT g s := by
  unfold cntTo
  rw [List.take_length, List.countP_map]
  rfl
theorem cntTo_le (l : List NewG) (s : Str) (i : Nat) : cntTo l s i ≤ i := by
  have h1 := List.countP_le_length (p := fun z : NewG => hasT z.g s) (l := l.take i)
  rw [List.length_take] at h1
  unfold cntTo
  omega

set_option maxRecDepth 100000 in
set_option maxHeartbeats 16000000 in
theorem minusmeans_law_c (b : Pat) (hs : List Pat) (b2 : Pat) (hs2 : List Pat) (s : Str) (A : Option Addr) (c : Nat) (HA : Option Addr) (hc : Nat) (A2 : Option Addr) (c2 : Nat) (HA2 : Option Addr) (hc2 : Nat) (w : World) (hsz : s.length ≤ 9223372036854775807)
    (hb : StrsG w A b.parts) (hh : PatsG w HA hs) (hbc : b.parts.length ≤ c) (hcc : c ≤ 9223372036854775807) (hhc : hs.length ≤ hc) (hhcc : hc ≤ 9223372036854775807)
    (hb2 : StrsG w A2 b2.parts) (hh2 : PatsG w HA2 hs2) (hbc2 : b2.parts.length ≤ c2) (hcc2 : c2 ≤ 9223372036854775807) (hhc2 : hs2.length ≤ hc2) (hhcc2 : hc2 ≤ 9223372036854775807) (hT : Tab w) (hM : MaxL w) :
    Calls Tryz.prog 7 #[.agg #[.slice A b.parts.length c, .bool b.rest, .slice HA hs.length hc], .agg #[.slice A2 b2.parts.length c2, .bool b2.rest, .slice HA2 hs2.length hc2], .string (bs s)] w fun e w' => e = .returned (.bool true) ∧ Calm w w' := by
  obtain ⟨hn, hhn⟩ : ∃ hn, hs.length = hn := ⟨_, rfl⟩
  obtain ⟨bn, hbn⟩ : ∃ bn, b.parts.length = bn := ⟨_, rfl⟩
  obtain ⟨br, hbr⟩ : ∃ br, b.rest = br := ⟨_, rfl⟩
  obtain ⟨hn2, hhn2⟩ : ∃ hn, hs2.length = hn := ⟨_, rfl⟩
  obtain ⟨bn2, hbn2⟩ : ∃ bn, b2.parts.length = bn := ⟨_, rfl⟩
  obtain ⟨br2, hbr2⟩ : ∃ br, b2.rest = br := ⟨_, rfl⟩
  obtain ⟨w1, hw1⟩ : ∃ w1, w1 = (w.alloc (.cells #[.slice A bn c, .bool br, .slice HA hn hc] 27)).alloc (.cells #[.slice A2 bn2 c2, .bool br2, .slice HA2 hn2 hc2] 27) := ⟨_, rfl⟩
  have hc1 : Calm w w1 := by rw [hw1]; exact ((Calm.refl w).alloc _).alloc _
  have hbox : Box2 w1 w.heap.size A bn c br HA hn hc A2 bn2 c2 br2 HA2 hn2 hc2 := by rw [hw1]; exact box2_new w A bn c br HA hn hc A2 bn2 c2 br2 HA2 hn2 hc2
  have K1 := small_v b hs bn hn br A c HA hc w1 (hb.calm hc1) (hh.calm hc1) hbc hcc hhc hhcc hbn hhn hbr
  have K2 : Hid (∀ W, Calm w1 W → Calls Tryz.prog 8 #[.agg #[.slice A2 bn2 c2, .bool br2, .slice HA2 hn2 hc2]] W fun e w' => SmallEnd b2 hs2 e ∧ Calm W w') := fun W hW => small_v b2 hs2 bn2 hn2 br2 A2 c2 HA2 hc2 W ((hb2.calm hc1).calm hW) ((hh2.calm hc1).calm hW) hbc2 hcc2 hhc2 hhcc2 hbn2 hhn2 hbr2
  have HW := Lib.hid hw1
  have HC := Lib.hid hc1
  have HT := Lib.hid (hT.calm hc1)
  have HM := Lib.hid (hM.calm hc1)
  have HB := Lib.hid hbox
  have HReg : Hid (SmallB b hs → RegA w1 A c HA b hs) := fun h => h.reg (hb.calm hc1) (hh.calm hc1) hbc hcc
  have HReg2 : Hid (SmallB b2 hs2 → RegA w1 A2 c2 HA2 b2 hs2) := fun h => h.reg (hb2.calm hc1) (hh2.calm hc1) hbc2 hcc2
  have HN : Hid (hs.length = hn ∧ b.parts.length = bn ∧ b.rest = br) := ⟨hhn, hbn, hbr⟩
  have HN2 : Hid (hs2.length = hn2 ∧ b2.parts.length = bn2 ∧ b2.rest = br2) := ⟨hhn2, hbn2, hbr2⟩
  rw [hhn] at hhc
  have HHc := Lib.hid (And.intro hhc hhcc)
  rw [hhn, hbn, hbr, hhn2, hbn2, hbr2]
  have hss := bs_size s
  clear hw1 hc1 hb hh hb2 hh2 hT hM hhn hbn hbr hbc hhc hhcc hhn2 hbn2 hbr2 hbc2 hhc2 hbox
  go_enter Tryz.func7, Tryz.ntmps7
  go_wp2_with fail
  rw [← HW.out]
  refine K1.mono ?_
  rintro e w2 ⟨⟨r1, rfl, hr1⟩, hc2'⟩
  have y0 := (HB.out.calm hc2').y0
  have y1 := (HB.out.calm hc2').y1
  have y2 := (HB.out.calm hc2').y2
  cases r1 with
  | false =>
    go_wp2_with (go_at_call 9; refine (awake_c _ (HT.out.calm hc2')).mono ?_; rintro e w3 ⟨rfl, hc3⟩)
    go_ret
    exact ⟨rfl, HC.out.trans (hc2'.trans hc3)⟩
  | true =>
    have HSa := Lib.hid (hr1 rfl)
    have HC2 := Lib.hid hc2'
    clear hr1 hc2' K1
    go_wp2_with fail
    refine (K2.out w2 HC2.out).mono ?_
    rintro e w3 ⟨⟨r2, rfl, hr2⟩, hc3⟩
    have HC3 := Lib.hid (HC2.out.trans hc3)
    clear y0 y1 y2
    cases r2 with
    | false =>
      go_wp2_with (go_at_call 9; refine (awake_c _ (HT.out.calm HC3.out)).mono ?_; rintro e w4 ⟨rfl, hc4⟩)
      go_ret
      exact ⟨rfl, HC.out.trans (HC3.out.trans hc4)⟩
    | true =>
      by_cases hlen : 300 < s.length
      · go_wp2_with (go_at_call 9; refine (awake_c _ (HT.out.calm HC3.out)).mono ?_; rintro e w4 ⟨rfl, hc4⟩)
        go_ret
        exact ⟨rfl, HC.out.trans (HC3.out.trans hc4)⟩
      · have hn70 : hn ≤ 70 := by have := HSa.out.holes; rw [HN.out.1] at this; exact this
        have hn702 : hn2 ≤ 70 := by have := (hr2 rfl).holes; rw [HN2.out.1] at this; exact this
        have HX := Lib.hid (HReg.out HSa.out)
        have HY := Lib.hid (HReg2.out (hr2 rfl))
        obtain ⟨x, hx⟩ : ∃ x : Reg, x = ⟨b, hs⟩ := ⟨_, rfl⟩
        obtain ⟨y, hy⟩ : ∃ y : Reg, y = ⟨b2, hs2⟩ := ⟨_, rfl⟩
        have HX' : Hid (RegA w1 A c HA x.b x.hs ∧ x.hs.length = hn ∧ x.b.parts.length = bn ∧ x.b.rest = br) := by rw [hx]; exact ⟨HX.out, HN.out⟩
        have HY' : Hid (RegA w1 A2 c2 HA2 y.b y.hs ∧ y.hs.length = hn2 ∧ y.b.parts.length = bn2 ∧ y.b.rest = br2) := by rw [hy]; exact ⟨HY.out, HN2.out⟩
        obtain ⟨gs, hgs⟩ : ∃ gs, (minusR x y).1 = gs := ⟨_, rfl⟩
        obtain ⟨er, her⟩ : ∃ er, (minusR x y).2 = er := ⟨_, rfl⟩
        obtain ⟨L, hL⟩ : ∃ L, gs.length = L := ⟨_, rfl⟩
        obtain ⟨va, hva⟩ : ∃ v, hasT x s = v := ⟨_, rfl⟩
        obtain ⟨vb, hvb⟩ : ∃ v, hasT y s = v := ⟨_, rfl⟩
        have KM : Hid (∀ W, Calm w1 W → Calls Tryz.prog 13 #[.agg #[.slice A bn c, .bool br, .slice HA hn hc], .agg #[.slice A2 bn2 c2, .bool br2, .slice HA2 hn2 hc2]] W fun e w' => (∃ A3 c3 l, e = .returned (.tuple #[.slice A3 L c3, .int .i64 er]) ∧ l.map (·.g) = gs ∧ (∀ z ∈ l, RegA w' z.A z.c z.HA z.g.b z.g.hs) ∧ ReadX encG 3 w' A3 l ∧ L ≤ 10000) ∧ Calm W w') := fun W hW =>
          gminus_v x y gs er L bn hn bn2 hn2 br br2 A c HA hc A2 c2 HA2 hc2 W (HX'.out.1.calm hW) (HY'.out.1.calm hW) HX'.out.2.2.1 HX'.out.2.1 HX'.out.2.2.2 HY'.out.2.2.1 HY'.out.2.1 HY'.out.2.2.2 (by omega) HHc.out.1 HHc.out.2 hgs her hL
        have HZ : Hid (er = 0 → (∀ g ∈ gs, gErr g = 0 ∧ gLen g ≠ 0) ∧ gs.countP (fun g => hasT g s) = if (va && !vb) then 1 else 0) := fun e => by
          subst e
          rw [← hva, ← hvb, ← hasT_minus her s, ← hgs]
          exact ⟨(minusR_zero her).2.2.1, rfl⟩
        have HL := Lib.hid hL
        have HVv := Lib.hid (And.intro hva hvb)
        have hs300 : s.length ≤ 10000 := by omega
        have HS300 := Lib.hid hs300
        clear hx hy HX HY HN HN2 HSa hr2 HReg HReg2 hgs her hL hva hvb K2 hc3 hs300 HHc hn70 hn702
        have b3 := HB.out.calm HC3.out
        have x0 := b3.x0
        have x1 := b3.x1
        have x2 := b3.x2
        have y0 := b3.y0
        have y1 := b3.y1
        have y2 := b3.y2
        clear b3
        go_wp2_with fail
        refine (KM.out w3 HC3.out).mono ?_
        rintro e w4 ⟨⟨A4, c4, l, rfl, hl1, hl2, hl3, hL10⟩, hcc4⟩
        have HC4 := Lib.hid (HC3.out.trans hcc4)
        clear x0 x1 x2 y0 y1 y2 hcc4 KM
        by_cases he : er = 0
        · subst he
          obtain ⟨z1, z2⟩ := HZ.out rfl
          have HLl : Hid (l.length = L) := by
            show _ = _
            rw [← HL.out, ← hl1, List.length_map]
          have HRd := Lib.hid hl3
          have HEach := Lib.hid hl2
          have HGood : Hid (∀ z ∈ l, gErr z.g = 0 ∧ gLen z.g ≠ 0) := fun z hz => z1 z.g (by rw [← hl1]; exact List.mem_map.2 ⟨z, hz, rfl⟩)
          have HCnt : Hid (cntTo l s L = if (va && !vb) then 1 else 0) := by
            show _ = _
            rw [← HLl.out, cntTo_all, hl1]
            exact z2
          clear z1 z2 hl1 hl2 hl3 HZ HL
          go_wp2_with fail
          go_loopw [9, 40] (fun u q wr => ∃ (i cn : Nat), i ≤ L ∧ cn ≤ i ∧ q = .int .i64 i ∧ u = .int .i64 cn ∧ Hid (cntTo l s i = cn) ∧ Hid (Calm w4 wr)) (fun _ q _ => L - (intOf q).toNat)
          case atStart => exact ⟨0, 0, Nat.zero_le _, Nat.le_refl _, rfl, rfl, by show _ = _; simp [cntTo], Calm.refl _⟩
          case round =>
            obtain ⟨wq, rfl⟩ : ∃ wq, wq = wr := ⟨_, rfl⟩
            obtain ⟨i, cn, hi, hcn, rfl, rfl, HCi, HCq⟩ := hrel
            by_cases hlt : i < L
            · obtain ⟨z, hz⟩ : ∃ z, l[i]? = some z := ⟨_, List.getElem?_eq_getElem (by rw [HLl.out]; exact hlt)⟩
              obtain ⟨b0, o0, rfl, hb0, hk0⟩ := HRd.out (fun e => by rw [e] at hz; simp at hz)
              have q0 := Calm.at_ HCq.out (hk0 i z hz 0 _ rfl) hb0
              have q1 := Calm.at_ HCq.out (hk0 i z hz 1 _ rfl) hb0
              have q2 := Calm.at_ HCq.out (hk0 i z hz 2 _ rfl) hb0
              rw [Nat.add_zero] at q0
              have hb1 := Nat.lt_of_lt_of_le hb0 HCq.out.size
              obtain ⟨zn, hzn⟩ : ∃ zn, z.g.b.parts.length = zn := ⟨_, rfl⟩
              obtain ⟨zr, hzr⟩ : ∃ zr, z.g.b.rest = zr := ⟨_, rfl⟩
              obtain ⟨zm, hzm⟩ : ∃ zm, z.g.hs.length = zm := ⟨_, rfl⟩
              obtain ⟨vz, hvz⟩ : ∃ vz, hasT z.g s = vz := ⟨_, rfl⟩
              rw [hzn] at q0
              rw [hzr] at q1
              rw [hzm] at q2
              obtain ⟨wB, hwB⟩ : ∃ wB, wB = wq.alloc (.cells #[.slice z.A zn z.c, .bool zr, .slice z.HA zm z.hc] 27) := ⟨_, rfl⟩
              have hcB : Calm wq wB := by rw [hwB]; exact (Calm.refl wq).alloc _
              have HBz : Hid (BoxR wB wq.heap.size z.A zn z.c zr z.HA zm z.hc) := by rw [hwB]; exact boxR_new wq z.A zn z.c zr z.HA zm z.hc
              have hzl := List.mem_of_getElem? hz
              have hreg := (HEach.out z hzl).calm (HCq.out.trans hcB)
              have KH := Lib.hid (has_v z.g s vz zn zm zr z.A z.c z.HA z.hc wB HS300.out hreg (HM.out.calm (HC4.out.trans (HCq.out.trans hcB))) hvz hzn hzm hzr)
              have KE : Hid (∀ W, Calm wB W → Calls Tryz.prog 18 #[.agg #[.slice z.A zn z.c, .bool zr, .slice z.HA zm z.hc]] W fun e w' => e = .returned (.tuple #[.bool false, .int .i64 0]) ∧ Calm W w') := fun W hW =>
                empty_g z.g 0 false zn zm zr z.A z.c z.HA z.hc W (hreg.calm hW) (HGood.out z hzl).1 (by have := (HGood.out z hzl).2; simp [this]) hzn hzm hzr
              have HCs : Hid (cntTo l s (i + 1) = cn + (if vz then 1 else 0)) := by
                show _ = _
                rw [cntTo_succ hz, HCi.out, hvz]
              have HWB := Lib.hid hwB
              have HCB := Lib.hid (HCq.out.trans hcB)
              clear hz hk0 hb0 hzn hzr hzm hvz hwB hcB hzl hreg
              go_wp2_with fail
              rw [← HWB.out]
              refine KH.out.mono ?_
              rintro e w5 ⟨rfl, hc5⟩
              have b5 := HBz.out.calm hc5
              have e0 := b5.x0
              have e1 := b5.x1
              have e2 := b5.x2
              have hc5' := Lib.hid hc5
              clear b5 hc5 q0 q1 q2
              cases vz with
              | false =>
                go_wp2_with (go_at_call 18; refine (KE.out w5 hc5'.out).mono ?_; rintro e w6 ⟨rfl, hc6⟩)
                go_roundw
                case rel => exact ⟨i + 1, cn, by omega, by omega, by go_num, rfl, HCs.out, HCB.out.trans (hc5'.out.trans hc6)⟩
                case measure => simp [intOf]; omega
              | true =>
                go_wp2_with (go_at_call 18; refine (KE.out w5 hc5'.out).mono ?_; rintro e w6 ⟨rfl, hc6⟩)
                go_roundw
                case rel => exact ⟨i + 1, cn + 1, by omega, by omega, by go_num, by go_num, HCs.out, HCB.out.trans (hc5'.out.trans hc6)⟩
                case measure => simp [intOf]; omega
            · obtain rfl : i = L := by omega
              have HCnt2 := Lib.hid (HCi.out.symm.trans HCnt.out)
              have HCw := Lib.hid (HC4.out.trans HCq.out)
              have KH2 : Hid (∀ W, Calm w1 W → Calls Tryz.prog 17 #[.agg #[.slice A bn c, .bool br, .slice HA hn hc], .string (bs s)] W fun e w' => e = .returned (.bool va) ∧ Calm W w') := fun W hW =>
                has_v x s va bn hn br A c HA hc W HS300.out (HX'.out.1.calm hW) (HM.out.calm hW) HVv.out.1 HX'.out.2.2.1 HX'.out.2.1 HX'.out.2.2.2
              have KH3 : Hid (∀ W, Calm w1 W → Calls Tryz.prog 17 #[.agg #[.slice A2 bn2 c2, .bool br2, .slice HA2 hn2 hc2], .string (bs s)] W fun e w' => e = .returned (.bool vb) ∧ Calm W w') := fun W hW =>
                has_v y s vb bn2 hn2 br2 A2 c2 HA2 hc2 W HS300.out (HY'.out.1.calm hW) (HM.out.calm hW) HVv.out.2 HY'.out.2.2.1 HY'.out.2.1 HY'.out.2.2.2
              have bw := HB.out.calm HCw.out
              have x0 := bw.x0
              have x1 := bw.x1
              have x2 := bw.x2
              clear bw HCi HCnt HLl HEach HGood HRd hcn hi hlt hL10
              go_wp2_with fail
              refine (KH2.out wq HCw.out).mono ?_
              rintro e w5 ⟨rfl, hc5⟩
              have HC5 := Lib.hid (HCw.out.trans hc5)
              have bw := HB.out.calm HC5.out
              have y0 := bw.y0
              have y1 := bw.y1
              have y2 := bw.y2
              clear bw x0 x1 x2 hc5
              cases va with
              | false =>
                obtain rfl : cn = 0 := by simpa using HCnt2.out
                go_wp2_with (go_at_call 9; refine (awake_c _ (HT.out.calm HC5.out)).mono ?_; rintro e w6 ⟨rfl, hc6⟩)
                go_ret
                exact ⟨rfl, HC.out.trans (HC5.out.trans hc6)⟩
              | true =>
                go_wp2_with fail
                refine (KH3.out w5 HC5.out).mono ?_
                rintro e w6 ⟨rfl, hc6⟩
                have HC6 := Lib.hid (HC5.out.trans hc6)
                clear hc6 y0 y1 y2
                cases vb with
                | false =>
                  obtain rfl : cn = 1 := by simpa using HCnt2.out
                  go_wp2_with (go_at_call 9; refine (awake_c _ (HT.out.calm HC6.out)).mono ?_; rintro e w7 ⟨rfl, hc7⟩)
                  go_ret
                  exact ⟨rfl, HC.out.trans (HC6.out.trans hc7)⟩
                | true =>
                  obtain rfl : cn = 0 := by simpa using HCnt2.out
                  go_wp2_with (go_at_call 9; refine (awake_c _ (HT.out.calm HC6.out)).mono ?_; rintro e w7 ⟨rfl, hc7⟩)
                  go_ret
                  exact ⟨rfl, HC.out.trans (HC6.out.trans hc7)⟩
        · go_wp2_with (go_at_call 9; refine (awake_c _ (HT.out.calm HC4.out)).mono ?_; rintro e w5 ⟨rfl, hc5⟩)
          go_ret
          exact ⟨rfl, HC.out.trans (HC4.out.trans hc5)⟩
end Go.Proofs.YtdndfkoklhfffaaGreatDoor
