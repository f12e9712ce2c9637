/- The law RegionParts: its walk. -/
import Derived.Test.YtdndfkoklhfffaaDoorMinusV
set_option linter.unusedVariables false
set_option linter.unusedSimpArgs false
namespace Go.Proofs.YtdndfkoklhfffaaDoor
open Go Go.RowKit Sy

/-- The parts, in a row. -/
structure PartsAt (w6 wx : World) (A : Option Addr) (c P : Nat) (l : List NewG) (gs : List Reg) : Prop where
  calm : Calm w6 wx
  len : l.length = P
  is : l.map (·.g) = gs
  each : ∀ z ∈ l, RegA wx z.A z.c z.HA z.g.b z.g.hs
  read : ReadX encG 3 wx A l
  few : P ≤ 10001
  room : P ≤ c
  cap : c ≤ 9223372036854775807
set_option maxRecDepth 100000 in
set_option maxHeartbeats 16000000 in
theorem parts_law_c (b : Pat) (hs : List Pat) (b2 : Pat) (hs2 : List Pat) (A : Option Addr) (c : Nat) (HA : Option Addr) (hc : Nat) (A2 : Option Addr) (c2 : Nat) (HA2 : Option Addr) (hc2 : Nat) (w : World)
    (hb : StrsG w A b.parts) (hh : PatsG w HA hs) (hbc : b.parts.length ≤ c) (hcc : c ≤ 9223372036854775807) (hhc : hs.length ≤ hc) (hhcc : hc ≤ 9223372036854775807)
    (hb2 : StrsG w A2 b2.parts) (hh2 : PatsG w HA2 hs2) (hbc2 : b2.parts.length ≤ c2) (hcc2 : c2 ≤ 9223372036854775807) (hhc2 : hs2.length ≤ hc2) (hhcc2 : hc2 ≤ 9223372036854775807) (hT : Tab w) :
    Calls Tryd.prog 9 #[.agg #[.slice A b.parts.length c, .bool b.rest, .slice HA hs.length hc], .agg #[.slice A2 b2.parts.length c2, .bool b2.rest, .slice HA2 hs2.length hc2]] w fun e w' => e = .returned (.bool true) ∧ Calm w w' := by
  obtain ⟨hn, hhn⟩ : ∃ hn, hs.length = hn := ⟨_, rfl⟩
  obtain ⟨bn, hbn⟩ : ∃ bn, b.parts.length = bn := ⟨_, rfl⟩
  obtain ⟨br, hbr⟩ : ∃ br, b.rest = br := ⟨_, rfl⟩
  obtain ⟨hn2, hhn2⟩ : ∃ hn, hs2.length = hn := ⟨_, rfl⟩
  obtain ⟨bn2, hbn2⟩ : ∃ bn, b2.parts.length = bn := ⟨_, rfl⟩
  obtain ⟨br2, hbr2⟩ : ∃ br, b2.rest = br := ⟨_, rfl⟩
  obtain ⟨w1, hw1⟩ : ∃ w1, w1 = (w.alloc (.cells #[.slice A bn c, .bool br, .slice HA hn hc] 27)).alloc (.cells #[.slice A2 bn2 c2, .bool br2, .slice HA2 hn2 hc2] 27) := ⟨_, rfl⟩
  have hc1 : Calm w w1 := by rw [hw1]; exact ((Calm.refl w).alloc _).alloc _
  have hbox : Box2 w1 w.heap.size A bn c br HA hn hc A2 bn2 c2 br2 HA2 hn2 hc2 := by rw [hw1]; exact box2_new w A bn c br HA hn hc A2 bn2 c2 br2 HA2 hn2 hc2
  have K1 := small_v b hs bn hn br A c HA hc w1 (hb.calm hc1) (hh.calm hc1) hbc hcc hhc hhcc hbn hhn hbr
  have K2 : Hid (∀ W, Calm w1 W → Calls Tryd.prog 10 #[.agg #[.slice A2 bn2 c2, .bool br2, .slice HA2 hn2 hc2]] W fun e w' => SmallEnd b2 hs2 e ∧ Calm W w') := fun W hW => small_v b2 hs2 bn2 hn2 br2 A2 c2 HA2 hc2 W ((hb2.calm hc1).calm hW) ((hh2.calm hc1).calm hW) hbc2 hcc2 hhc2 hhcc2 hbn2 hhn2 hbr2
  have HW := Lib.hid hw1
  have HC := Lib.hid hc1
  have HT := Lib.hid (hT.calm hc1)
  have HB := Lib.hid hbox
  have HReg : Hid (SmallB b hs → RegA w1 A c HA b hs) := fun h => h.reg (hb.calm hc1) (hh.calm hc1) hbc hcc
  have HReg2 : Hid (SmallB b2 hs2 → RegA w1 A2 c2 HA2 b2 hs2) := fun h => h.reg (hb2.calm hc1) (hh2.calm hc1) hbc2 hcc2
  have HN : Hid (hs.length = hn ∧ b.parts.length = bn ∧ b.rest = br) := ⟨hhn, hbn, hbr⟩
  have HN2 : Hid (hs2.length = hn2 ∧ b2.parts.length = bn2 ∧ b2.rest = br2) := ⟨hhn2, hbn2, hbr2⟩
  rw [hhn] at hhc
  have HHc := Lib.hid (And.intro hhc hhcc)
  rw [hhn, hbn, hbr, hhn2, hbn2, hbr2]
  clear hw1 hc1 hb hh hb2 hh2 hT hhn hbn hbr hbc hhc hhcc hhn2 hbn2 hbr2 hbc2 hhc2 hbox
  go_enter Tryd.func9, Tryd.ntmps9
  go_wp2_with fail
  rw [← HW.out]
  refine K1.mono ?_
  rintro e w2 ⟨⟨r1, rfl, hr1⟩, hc2'⟩
  have y0 := (HB.out.calm hc2').y0
  have y1 := (HB.out.calm hc2').y1
  have y2 := (HB.out.calm hc2').y2
  cases r1 with
  | false =>
    go_wp2_with (go_at_call 11; refine (awake_c _ (HT.out.calm hc2')).mono ?_; rintro e w3 ⟨rfl, hc3⟩)
    go_ret
    exact ⟨rfl, HC.out.trans (hc2'.trans hc3)⟩
  | true =>
    have HSa := Lib.hid (hr1 rfl)
    have HC2 := Lib.hid hc2'
    clear hr1 hc2' K1
    go_wp2_with fail
    refine (K2.out w2 HC2.out).mono ?_
    rintro e w3 ⟨⟨r2, rfl, hr2⟩, hc3⟩
    have HC3 := Lib.hid (HC2.out.trans hc3)
    clear y0 y1 y2
    cases r2 with
    | false =>
      go_wp2_with (go_at_call 11; refine (awake_c _ (HT.out.calm HC3.out)).mono ?_; rintro e w4 ⟨rfl, hc4⟩)
      go_ret
      exact ⟨rfl, HC.out.trans (HC3.out.trans hc4)⟩
    | true =>
      have hn70 : hn ≤ 70 := by have := HSa.out.holes; rw [HN.out.1] at this; exact this
      have hn702 : hn2 ≤ 70 := by have := (hr2 rfl).holes; rw [HN2.out.1] at this; exact this
      have HX := Lib.hid (HReg.out HSa.out)
      have HY := Lib.hid (HReg2.out (hr2 rfl))
      obtain ⟨x, hx⟩ : ∃ x : Reg, x = ⟨b, hs⟩ := ⟨_, rfl⟩
      obtain ⟨y, hy⟩ : ∃ y : Reg, y = ⟨b2, hs2⟩ := ⟨_, rfl⟩
      have HX' : Hid (RegA w1 A c HA x.b x.hs ∧ x.hs.length = hn ∧ x.b.parts.length = bn ∧ x.b.rest = br) := by rw [hx]; exact ⟨HX.out, HN.out⟩
      have HY' : Hid (RegA w1 A2 c2 HA2 y.b y.hs ∧ y.hs.length = hn2 ∧ y.b.parts.length = bn2 ∧ y.b.rest = br2) := by rw [hy]; exact ⟨HY.out, HN2.out⟩
      obtain ⟨G, hG⟩ : ∃ G, (meetR x y).1.getD zeroReg = G := ⟨_, rfl⟩
      obtain ⟨ok, hok⟩ : ∃ ok, (meetR x y).1.isSome = ok := ⟨_, rfl⟩
      obtain ⟨er, her⟩ : ∃ er, (meetR x y).2 = er := ⟨_, rfl⟩
      obtain ⟨gn, hgn⟩ : ∃ gn, G.b.parts.length = gn := ⟨_, rfl⟩
      obtain ⟨gm, hgm⟩ : ∃ gm, G.hs.length = gm := ⟨_, rfl⟩
      obtain ⟨gr, hgr⟩ : ∃ gr, G.b.rest = gr := ⟨_, rfl⟩
      obtain ⟨gs, hgs⟩ : ∃ gs, (minusR x y).1 = gs := ⟨_, rfl⟩
      obtain ⟨em, hem⟩ : ∃ em, (minusR x y).2 = em := ⟨_, rfl⟩
      obtain ⟨L, hL⟩ : ∃ L, gs.length = L := ⟨_, rfl⟩
      obtain ⟨P, hP⟩ : ∃ P, (partsR x y).length = P := ⟨_, rfl⟩
      have KM : Hid (∀ W, Calm w1 W → Calls Tryd.prog 25 #[.agg #[.slice A bn c, .bool br, .slice HA hn hc], .agg #[.slice A2 bn2 c2, .bool br2, .slice HA2 hn2 hc2]] W fun e w' => (∃ A3 c3 HA3 hc3, e = .returned (.tuple #[.agg #[.slice A3 gn c3, .bool gr, .slice HA3 gm hc3], .bool ok, .int .i64 er]) ∧ RegA w' A3 c3 HA3 G.b G.hs) ∧ Calm W w') := fun W hW =>
        gmeet_v x y G ok er gn gm gr bn hn bn2 hn2 br br2 A c HA hc A2 c2 HA2 hc2 W (HX'.out.1.calm hW) (HY'.out.1.calm hW) HX'.out.2.2.1 HX'.out.2.1 HX'.out.2.2.2 HY'.out.2.2.1 HY'.out.2.1 HY'.out.2.2.2 (by omega) hG hok her hgn hgm hgr
      have KN : Hid (∀ W, Calm w1 W → Calls Tryd.prog 26 #[.agg #[.slice A bn c, .bool br, .slice HA hn hc], .agg #[.slice A2 bn2 c2, .bool br2, .slice HA2 hn2 hc2]] W fun e w' => (∃ A3 c3 l, e = .returned (.tuple #[.slice A3 L c3, .int .i64 em]) ∧ l.map (·.g) = gs ∧ (∀ z ∈ l, RegA w' z.A z.c z.HA z.g.b z.g.hs) ∧ ReadX encG 3 w' A3 l ∧ L ≤ 10000 ∧ L ≤ c3 ∧ c3 ≤ 9223372036854775807) ∧ Calm W w') := fun W hW =>
        gminusV x y gs em L bn hn bn2 hn2 br br2 A c HA hc A2 c2 HA2 hc2 W (HX'.out.1.calm hW) (HY'.out.1.calm hW) HX'.out.2.2.1 HX'.out.2.1 HX'.out.2.2.2 HY'.out.2.2.1 HY'.out.2.1 HY'.out.2.2.2 (by omega) HHc.out.1 HHc.out.2 hgs hem hL
      have HG := Lib.hid (And.intro hgn (And.intro hgm hgr))
      have HE := Lib.hid (And.intro her hem)
      have HP := Lib.hid hP
      have HL := Lib.hid hL
      have HPt : Hid (partsR x y = gs ++ (meetR x y).1.toList) := by
        show _ = _
        rw [← hgs]
        rfl
      have HOk := Lib.hid (And.intro hG hok)
      clear hx hy HX HY HN HN2 HSa hr2 HReg HReg2 hG hok her hgn hgm hgr hgs hem hL hP K2 hc3 HHc hn70 hn702
      have b3 := HB.out.calm HC3.out
      have x0 := b3.x0
      have x1 := b3.x1
      have x2 := b3.x2
      have y0 := b3.y0
      have y1 := b3.y1
      have y2 := b3.y2
      clear b3
      go_wp2_with fail
      refine (KM.out w3 HC3.out).mono ?_
      rintro e w4 ⟨⟨A4, c4, HA4, hc4, rfl, hr4⟩, hcc4⟩
      clear x0 x1 x2 y0 y1 y2 KM
      obtain ⟨w5, hw5⟩ : ∃ w5, w5 = w4.alloc (.cells #[.slice A4 gn c4, .bool gr, .slice HA4 gm hc4] 27) := ⟨_, rfl⟩
      have hcc5 : Calm w4 w5 := by rw [hw5]; exact (Calm.refl w4).alloc _
      have HB5 : Hid (BoxR w5 w4.heap.size A4 gn c4 gr HA4 gm hc4) := by rw [hw5]; exact boxR_new w4 A4 gn c4 gr HA4 gm hc4
      have HR5 := Lib.hid (hr4.calm hcc5)
      have HC5 := Lib.hid (HC3.out.trans (hcc4.trans hcc5))
      have b4 := HB.out.calm (HC3.out.trans hcc4)
      have x0 := b4.x0
      have x1 := b4.x1
      have x2 := b4.x2
      have y0 := b4.y0
      have y1 := b4.y1
      have y2 := b4.y2
      have xlt : w.heap.size < w4.heap.size := by have := b4.size; omega
      have ylt : w.heap.size + 1 < w4.heap.size := by have := b4.size; omega
      have HW5 := Lib.hid hw5
      clear b4 hw5 hcc4 hcc5 hr4
      go_wp2_with fail
      rw [← HW5.out]
      refine (KN.out w5 HC5.out).mono ?_
      rintro e w6 ⟨⟨A6, c6, l, rfl, hl1, hl2, hl3, hL10, hLc, hLc63⟩, hcc6⟩
      have HC6 := Lib.hid (HC5.out.trans hcc6)
      have HB6 := Lib.hid (HB5.out.calm hcc6)
      have HR6 := Lib.hid (HR5.out.calm hcc6)
      clear x0 x1 x2 y0 y1 y2 xlt ylt hcc6 KN HB5 HR5
      by_cases he : er = 0
      · by_cases hf : em = 0
        · subst he hf
          have HLl : Hid (l.length = L) := by
            show _ = _
            rw [← HL.out, ← hl1, List.length_map]
          have HEach := Lib.hid hl2
          have HRd := Lib.hid hl3
          have HIs := Lib.hid hl1
          have HCap := Lib.hid (And.intro hLc hLc63)
          clear hl1 hl2 hl3 hLc hLc63
          go_upto_if 46 with (fail)
          go_cut [8] (fun s wx => ∃ A8 c8 l8, s = .slice A8 P c8 ∧ Hid (PartsAt w6 wx A8 c8 P l8 (partsR x y)))
          case first =>
            cases ok with
            | false =>
              have hPL : Hid (PartsAt w6 w6 A6 c6 P l (partsR x y) ∧ P = L) := by
                have h1 : (meetR x y).1 = none := by
                  have := HOk.out.2
                  rcases h : (meetR x y).1 with _ | g
                  · rfl
                  · rw [h] at this
                    cases this
                have h2 : partsR x y = gs := by rw [HPt.out, h1]; simp
                have h3 : P = L := by rw [← HP.out, h2]; exact HL.out
                rw [h3, h2]
                exact ⟨⟨Calm.refl _, HLl.out, HIs.out, HEach.out, HRd.out, by omega, HCap.out.1, HCap.out.2⟩, rfl⟩
              go_wp2_with fail
              go_meet
              case rel => exact ⟨A6, c6, l, by rw [hPL.out.2], hPL.out.1⟩
            | true =>
              have HPL : Hid (partsR x y = gs ++ [G] ∧ P = L + 1) := by
                have h1 : (meetR x y).1 = some G := by
                  have h0 := HOk.out.1
                  have h2 := HOk.out.2
                  rcases h : (meetR x y).1 with _ | g
                  · rw [h] at h2
                    cases h2
                  · rw [h] at h0
                    exact congrArg some h0
                have h2 : partsR x y = gs ++ [G] := by rw [HPt.out, h1]; rfl
                refine ⟨h2, ?_⟩
                rw [← HP.out, h2, List.length_append, HL.out]
                rfl
              have HSX : Hid (∀ W, Calm w6 W → W.cell? ⟨w4.heap.size, 0, none⟩ = some (.slice A4 gn c4) ∧ W.cell? ⟨w4.heap.size, 1, none⟩ = some (.bool gr) ∧ W.cell? ⟨w4.heap.size, 2, none⟩ = some (.slice HA4 gm hc4)) := fun W hW =>
                ⟨(HB6.out.calm hW).x0, (HB6.out.calm hW).x1, (HB6.out.calm hW).x2⟩
              go_wp2_with fail
              go_region_held3 (fun W => W.cell? ⟨w4.heap.size, 0, none⟩ = some (.slice A4 gn c4) ∧ W.cell? ⟨w4.heap.size, 1, none⟩ = some (.bool gr) ∧ W.cell? ⟨w4.heap.size, 2, none⟩ = some (.slice HA4 gm hc4))
                (first
                  | exact HSX.out _ (Below.drew (Calm.refl _))
                  | exact HSX.out _ (Below.drew ((Calm.refl _).alloc _))
                  | exact HSX.out _ hcy
                  | exact HSX.out _ hcx
                  | exact HSX.out _ (hcx.alloc _)
                  | go_keep)
                (first
                  | (refine step_append_g rfl _ (.tmp 47) rfl _ (.slice none 0 0) [] l (by simp [Act.eval, Act.put]) (OwnX.nil (Calm.refl _)) A6 L c6 (by simp [Act.eval, Act.put]) HLl.out (HRd.out.calm (by first | exact Below.drew (Calm.refl _) | exact Below.drew ((Calm.refl _).alloc _))) (by simp; omega) ?_; intro v7 w7 hown70 hgr7; rw [List.nil_append] at hown70; obtain ⟨A7, c7, hv7⟩ := hown70.len_shape; rw [HLl.out] at hv7; subst hv7; (first | have hRd : ReadX encG 3 w7 (some ⟨w6.heap.size, 0, none⟩) [⟨A4, c4, HA4, hc4, G⟩] := ((read_newN ⟨A4, c4, HA4, hc4, G⟩ HG.out.1 HG.out.2.2 HG.out.2.1 rfl).calm (Below.drew (Calm.refl _))).calm hown70.calm | skip); have hown7 : OwnX encG 3 27 w6 w7 (.slice A7 L c7) l := hown70.base (by first | exact Below.drew (Calm.refl _) | exact Below.drew ((Calm.refl _).alloc _)); have hcx : Calm w6 w7 := hown7.calm)
                  | (refine step_append_g rfl (.tmp 48) (.tmp 50) rfl w6 (.slice A7 L c7) l [⟨A4, c4, HA4, hc4, G⟩] (by simp [Act.eval, Act.put]) (hown7.to (by first | exact Calm.refl _ | exact (Calm.refl _).alloc _)) _ 1 1 rfl rfl (by first | exact hRd | exact read_newN ⟨A4, c4, HA4, hc4, G⟩ HG.out.1 HG.out.2.2 HG.out.2.1 rfl) (by rw [HLl.out]; omega) ?_; intro v8 w8 hown8 hgr8; obtain ⟨A8, c8, hv8⟩ := hown8.len_shape; rw [List.length_append, HLl.out, List.length_singleton] at hv8; subst hv8; have hcy : Calm w6 w8 := hown8.calm))
              all_goals
                have hPA : Hid (PartsAt w6 w8 A8 c8 P (l ++ [⟨A4, c4, HA4, hc4, G⟩]) (partsR x y)) := by
                  have h1 := own_readG hown8
                  have h2 : (l ++ [(⟨A4, c4, HA4, hc4, G⟩ : NewG)]).length = P := by rw [List.length_append, HLl.out, HPL.out.2]; rfl
                  rw [h2] at h1
                  refine ⟨hcy, h2, ?_, fun z hz => ?_, h1.1, by rw [HPL.out.2]; omega, h1.2.1, h1.2.2⟩
                  · rw [HPL.out.1, List.map_append, HIs.out]
                    rfl
                  · rcases List.mem_append.1 hz with hz | hz
                    · exact (HEach.out z hz).calm hcy
                    · rw [List.mem_singleton.1 hz]
                      exact HR6.out.calm hcy
                clear hown70 hown7 hgr7 hown8 hgr8
                go_wp2_with fail
                go_meet
                case rel => exact ⟨A8, c8, _, by rw [HPL.out.2], hPA⟩
          case rest =>
            obtain ⟨A8, c8, l8, rfl, HPA⟩ := hcut
            have HCc := Lib.hid (HC6.out.trans HPA.out.calm)
            have hP1 := HPA.out.few
            have hP2 := HPA.out.room
            have hP3 := HPA.out.cap
            have HGood : Hid (∀ z ∈ l8, gErr z.g = 0) := fun z hz => (parts_good HE.out.2 z.g (by rw [← HPA.out.is]; exact List.mem_map.2 ⟨z, hz, rfl⟩)).1
            have HDisj : Hid (∀ (i k : Nat) (zi zk : NewG), k < i → l8[k]? = some zk → l8[i]? = some zi → (meetR zi.g zk.g).1 = none) := fun i k zi zk hik hk hi =>
              parts_disj HE.out.1 HE.out.2 hik (by rw [← HPA.out.is, List.getElem?_map, hk]; rfl) (by rw [← HPA.out.is, List.getElem?_map, hi]; rfl)
            go_wp2_with fail
            go_loopw [54] (fun q wr => ∃ i : Nat, i ≤ P ∧ q = .int .i64 i ∧ Hid (Calm wc wr)) (fun q _ => P - (intOf q).toNat)
            case atStart => exact ⟨0, Nat.zero_le _, rfl, Calm.refl _⟩
            case round =>
              obtain ⟨wq, rfl⟩ : ∃ wq, wq = wr := ⟨_, rfl⟩
              obtain ⟨i, hi, rfl, HCq⟩ := hrel
              by_cases hlt : i < P
              · obtain ⟨zi, hzi⟩ : ∃ z, l8[i]? = some z := ⟨_, List.getElem?_eq_getElem (by rw [HPA.out.len]; exact hlt)⟩
                obtain ⟨b0, o0, rfl, hb0, hk0⟩ := HPA.out.read (fun e => by rw [e] at hzi; simp at hzi)
                have HK0 := Lib.hid (And.intro hzi (And.intro hb0 hk0))
                clear hzi hb0 hk0
                go_wp2_with fail
                go_loopw [61] (fun q wr => ∃ k : Nat, k ≤ i ∧ q = .int .i64 k ∧ Hid (Calm wq wr)) (fun q _ => i - (intOf q).toNat)
                case atStart => exact ⟨0, Nat.zero_le _, rfl, Calm.refl _⟩
                case round =>
                  obtain ⟨wk, rfl⟩ : ∃ wk, wk = wr := ⟨_, rfl⟩
                  obtain ⟨k, hk, rfl, HCk⟩ := hrel
                  by_cases hlt2 : k < i
                  · obtain ⟨zk, hzk⟩ : ∃ z, l8[k]? = some z := ⟨_, List.getElem?_eq_getElem (by rw [HPA.out.len]; omega)⟩
                    have HCx := Lib.hid (HCq.out.trans HCk.out)
                    obtain ⟨n1, hn1⟩ : ∃ n, zi.g.b.parts.length = n := ⟨_, rfl⟩
                    obtain ⟨r1, hr1⟩ : ∃ r, zi.g.b.rest = r := ⟨_, rfl⟩
                    obtain ⟨m1, hm1⟩ : ∃ m, zi.g.hs.length = m := ⟨_, rfl⟩
                    obtain ⟨n2, hn2⟩ : ∃ n, zk.g.b.parts.length = n := ⟨_, rfl⟩
                    obtain ⟨r2, hr2⟩ : ∃ r, zk.g.b.rest = r := ⟨_, rfl⟩
                    obtain ⟨m2, hm2⟩ : ∃ m, zk.g.hs.length = m := ⟨_, rfl⟩
                    obtain ⟨e9, he9⟩ : ∃ e, (meetR zi.g zk.g).2 = e := ⟨_, rfl⟩
                    have hzil := List.mem_of_getElem? HK0.out.1
                    have hzkl := List.mem_of_getElem? hzk
                    have hdis := HDisj.out i k zi zk hlt2 hzk HK0.out.1
                    have hb0 := HK0.out.2.1
                    have hb1 := Nat.lt_of_lt_of_le hb0 HCx.out.size
                    have p0 := HK0.out.2.2 i zi HK0.out.1 0 _ rfl
                    have p1 := HK0.out.2.2 i zi HK0.out.1 1 _ rfl
                    have p2 := HK0.out.2.2 i zi HK0.out.1 2 _ rfl
                    have q0 := HK0.out.2.2 k zk hzk 0 _ rfl
                    have q1 := HK0.out.2.2 k zk hzk 1 _ rfl
                    have q2 := HK0.out.2.2 k zk hzk 2 _ rfl
                    rw [Nat.add_zero] at p0 q0
                    rw [hn1] at p0
                    rw [hr1] at p1
                    rw [hm1] at p2
                    rw [hn2] at q0
                    rw [hr2] at q1
                    rw [hm2] at q2
                    have HSX : Hid (∀ W, Calm wk W → W.cell? ⟨b0, o0 + i * 3, none⟩ = some (.slice zi.A n1 zi.c) ∧ W.cell? ⟨b0, o0 + i * 3 + 1, none⟩ = some (.bool r1) ∧ W.cell? ⟨b0, o0 + i * 3 + 2, none⟩ = some (.slice zi.HA m1 zi.hc) ∧ W.cell? ⟨b0, o0 + k * 3, none⟩ = some (.slice zk.A n2 zk.c) ∧ W.cell? ⟨b0, o0 + k * 3 + 1, none⟩ = some (.bool r2) ∧ W.cell? ⟨b0, o0 + k * 3 + 2, none⟩ = some (.slice zk.HA m2 zk.hc)) := fun W hW =>
                      ⟨Calm.at_ (HCx.out.trans hW) p0 hb0, Calm.at_ (HCx.out.trans hW) p1 hb0, Calm.at_ (HCx.out.trans hW) p2 hb0, Calm.at_ (HCx.out.trans hW) q0 hb0, Calm.at_ (HCx.out.trans hW) q1 hb0, Calm.at_ (HCx.out.trans hW) q2 hb0⟩
                    have KMk : Hid (∀ W, Calm wk W → Calls Tryd.prog 25 #[.agg #[.slice zi.A n1 zi.c, .bool r1, .slice zi.HA m1 zi.hc], .agg #[.slice zk.A n2 zk.c, .bool r2, .slice zk.HA m2 zk.hc]] W fun e w' => (∃ A3 c3 HA3 hc3, e = .returned (.tuple #[.agg #[.slice A3 0 c3, .bool false, .slice HA3 0 hc3], .bool false, .int .i64 e9]) ∧ RegA w' A3 c3 HA3 zeroReg.b zeroReg.hs) ∧ Calm W w') := fun W hW =>
                      gmeet_v zi.g zk.g zeroReg false e9 0 0 false n1 m1 n2 m2 r1 r2 zi.A zi.c zi.HA zi.hc zk.A zk.c zk.HA zk.hc W ((HPA.out.each zi hzil).calm (HCx.out.trans hW)) ((HPA.out.each zk hzkl).calm (HCx.out.trans hW)) hn1 hm1 hr1 hn2 hm2 hr2 (by have h1 := (gErr_zero (HGood.out zi hzil)).2.2; have h2 := (gErr_zero (HGood.out zk hzkl)).2.2; omega) (by rw [hdis]; rfl) (by rw [hdis]; rfl) he9 rfl rfl rfl
                    have hwcs := HCx.out.size
                    have hkP : k < P := by omega
                    have hkP1 : (k : Int) < (P : Int) := by omega
                    have hkP0 : (0 : Int) ≤ (k : Int) := by omega
                    clear hzil hzkl hdis p0 p1 p2 q0 q1 q2 hn1 hr1 hm1 hn2 hr2 hm2 he9 hzk
                    go_wp2_with fail
                    go_region_held3 (fun W => W.cell? ⟨b0, o0 + i * 3, none⟩ = some (.slice zi.A n1 zi.c) ∧ W.cell? ⟨b0, o0 + i * 3 + 1, none⟩ = some (.bool r1) ∧ W.cell? ⟨b0, o0 + i * 3 + 2, none⟩ = some (.slice zi.HA m1 zi.hc) ∧ W.cell? ⟨b0, o0 + k * 3, none⟩ = some (.slice zk.A n2 zk.c) ∧ W.cell? ⟨b0, o0 + k * 3 + 1, none⟩ = some (.bool r2) ∧ W.cell? ⟨b0, o0 + k * 3 + 2, none⟩ = some (.slice zk.HA m2 zk.hc))
                      (first
                        | exact HSX.out _ (Below.drew (Calm.refl _))
                        | exact HSX.out _ (Below.drew ((Calm.refl _).alloc _))
                        | exact HSX.out _ (calm3 (o := 0) hcz (Nat.le_refl _) _ _ _)
                        | exact HSX.out _ hcz
                        | exact HSX.out _ (hcz.alloc _)
                        | go_keep)
                      (first
                        | (go_at_call 25; refine (KMk.out _ (by first | exact Below.drew (Calm.refl _) | exact Below.drew ((Calm.refl _).alloc _))).mono ?_; rintro e w9 ⟨⟨A9, c9, HA9, hc9', rfl, _⟩, hc9⟩; (first | have hZ9 : ZeroK w9 wk.heap.size := (zk_newd wk).calm hc9 | skip); have hcz : Calm wk w9 := Calm.trans (by first | exact Below.drew (Calm.refl _) | exact Below.drew ((Calm.refl _).alloc _)) hc9; try (have z0 := hZ9.z.z0; have z1 := hZ9.z.z1; have z2 := hZ9.z.z2; have f0 := hZ9.z.f0; have f1 := hZ9.z.f1; have f2 := hZ9.z.f2)))
                    all_goals
                      go_wp2_with fail
                      go_roundw
                      case rel =>
                        first
                          | exact ⟨k + 1, by omega, by go_num, HCk.out.trans (hcz.alloc _)⟩
                          | exact ⟨k + 1, by omega, by go_num, HCk.out.trans (calm3 (o := 0) hcz (Nat.le_refl _) _ _ _)⟩
                      case measure => simp [intOf]; omega
                  · obtain rfl : k = i := by omega
                    go_wp2_with fail
                    go_roundw
                    case rel => exact ⟨k + 1, by omega, by go_num, HCq.out.trans HCk.out⟩
                    case measure => simp [intOf]; omega
              · obtain rfl : i = P := by omega
                have HCw := Lib.hid (HCc.out.trans HCq.out)
                obtain ⟨ve, hve⟩ : ∃ v, (gLen x == 0) = v := ⟨_, rfl⟩
                have HEm : Hid (ve = true ↔ i = 0) := by
                  have h1 := parts_empty HE.out.1 HE.out.2
                  show _ ↔ _
                  rw [← hve, beq_iff_eq, h1, ← HP.out, List.length_eq_zero_iff]
                have KE : Hid (∀ W, Calm w1 W → Calls Tryd.prog 12 #[.agg #[.slice A bn c, .bool br, .slice HA hn hc]] W fun e w' => e = .returned (.tuple #[.bool ve, .int .i64 0]) ∧ Calm W w') := fun W hW =>
                  emptyV x 0 ve bn hn br A c HA hc W (HX'.out.1.calm hW) (minusR_zero HE.out.2).1 (by simpa using hve) HX'.out.2.2.1 HX'.out.2.1 HX'.out.2.2.2
                have bw := HB.out.calm HCw.out
                have x0 := bw.x0
                have x1 := bw.x1
                have x2 := bw.x2
                clear bw hve
                go_wp2_with fail
                refine (KE.out wq HCw.out).mono ?_
                rintro e w9 ⟨rfl, hc9⟩
                have HC9 := Lib.hid (HCw.out.trans hc9)
                clear x0 x1 x2 hc9
                cases ve with
                | true =>
                  obtain rfl : i = 0 := HEm.out.1 rfl
                  go_wp2_with (go_at_call 11; refine (awake_c _ (HT.out.calm HC9.out)).mono ?_; rintro e w10 ⟨rfl, hc10⟩)
                  go_ret
                  exact ⟨rfl, HC.out.trans (HC9.out.trans hc10)⟩
                | false =>
                  have hne : ¬ i = 0 := fun e => by have := HEm.out.2 e; cases this
                  have hne2 : ((i : Int) == 0) = false := by simp; omega
                  go_wp2_with (go_at_call 11; refine (awake_c _ (HT.out.calm HC9.out)).mono ?_; rintro e w10 ⟨rfl, hc10⟩)
                  go_ret
                  exact ⟨rfl, HC.out.trans (HC9.out.trans hc10)⟩
        · subst he
          go_wp2_with (go_at_call 11; refine (awake_c _ (HT.out.calm HC6.out)).mono ?_; rintro e w7 ⟨rfl, hc7⟩)
          go_ret
          exact ⟨rfl, HC.out.trans (HC6.out.trans hc7)⟩
      · go_wp2_with (go_at_call 11; refine (awake_c _ (HT.out.calm HC6.out)).mono ?_; rintro e w7 ⟨rfl, hc7⟩)
        go_ret
        exact ⟨rfl, HC.out.trans (HC6.out.trans hc7)⟩
end Go.Proofs.YtdndfkoklhfffaaDoor
