/- Walk: mapping.Restrict. -/
import Derived.Test.YtmfjppaeddbdaaaGreatDoorZRedM
import Derived.Test.YtmfjppaeddbdaaaGreatDoorZRstL
import Derived.Test.YtmfjppaeddbdaaaGreatDoorZFwdM
import Derived.Test.YtmfjppaeddbdaaaGreatDoorZMapA
import Derived.Test.YtmfjppaeddbdaaaGreatDoorZRegB
set_option linter.unusedVariables false
set_option linter.unusedSimpArgs false
namespace Go.Proofs.YtmfjppaeddbdaaaGreatDoor
open Go Go.RowKit Sy

theorem narL_left {r n : Rule} {q : Pat} {L : Nat} (h : (narL r q).1 = some n) (hL : 1 ≤ L) (hl : ∀ x ∈ r.left.parts, x.length ≤ L) (hq : ∀ x ∈ q.parts, x.length ≤ L) : ∀ x ∈ n.left.parts, x.length ≤ L := by
  obtain ⟨_, _, _, m, hm, rfl, _, h2⟩ := narL_some h
  exact meet_each hm hl hq hL
set_option maxRecDepth 100000 in
set_option maxHeartbeats 16000000 in
theorem mres_c (es : List Ent) (g : Reg) (n c : Nat) (A : Option Addr) (gA gHA : Option Addr) (gn gc gm ghc : Nat) (gr : Bool) (w : World) (h : EntsA w A es) (hcn : n ≤ c) (hcc : c ≤ 9223372036854775807) (hn : es.length = n) (hsm : ∀ x ∈ es, SmallE x) (hx : RegX w gA gc gHA ghc g) (hgs : SmallX g) (hgn : g.b.parts.length = gn) (hgm : g.hs.length = gm) (hgr : g.b.rest = gr) :
    Calls Tryz.prog 25 #[.slice A n c, .agg #[.slice gA gn gc, .bool gr, .slice gHA gm ghc]] w fun e w' => EntOut (resE es g).1 (resE es g).2 w.heap.size e w' ∧ Calm w w' := by
  have hl : n ≤ 1048576 := by rw [← hn]; exact h.1
  obtain ⟨er, her⟩ : ∃ er, (mapE es).2 = er := ⟨_, rfl⟩
  obtain ⟨ge, hge⟩ : ∃ ge, gErr g = ge := ⟨_, rfl⟩
  obtain ⟨w1, hw1⟩ : ∃ w1, w1 = (w.alloc (.cells #[.slice gA gn gc, .bool gr, .slice gHA gm ghc] 43)).alloc (.cells #[.slice A n c] 22) := ⟨_, rfl⟩
  have hc1 : Calm w w1 := by rw [hw1]; exact ((Calm.refl w).alloc _).alloc _
  have hrb : RgB w1 w.heap.size (.slice gA gn gc) (.bool gr) (.slice gHA gm ghc) := by
    rw [hw1]
    exact (RgB.new w _ _ _).calm ((Calm.refl _).alloc _)
  have KC := check1_c es n c (w.heap.size + 1) A er w1 (h.calm hc1) hcn hcc hsm hn her (by rw [hw1]; simp) (by rw [hw1]; simp)
  have KG : Hid (∀ W, Calm w1 W → Calls Tryz.prog 56 #[.agg #[.slice gA gn gc, .bool gr, .slice gHA gm ghc]] W fun e w' => e = .returned (.int .i64 ge) ∧ Calm W w') := fun W hW => by
    have hX := hx.calm (hc1.trans hW)
    have := gchecku_c g.b g.hs gA gc gHA ghc W hX.base hX.room hX.cap hX.holes
    rw [hgn, hgm, hgr, show regErr g.b g.hs = ge from hge] at this
    exact this
  have HV0 : er ≠ 0 → Hid (resE es g = ([], er)) := fun h0 => by
    show resE es g = _
    unfold resE
    rw [her, if_pos h0]
  have HV1 : er = 0 → ge ≠ 0 → Hid (resE es g = ([], 73)) := fun h0 h1 => by
    show resE es g = _
    unfold resE
    rw [her, if_neg (by simpa using h0), if_pos (by rw [hge]; exact h1)]
  have HV2 : er = 0 → ge = 0 → Hid ((∀ out, resL g es = some out → resE es g = (out, 0)) ∧ (resL g es = none → resE es g = ([], 72)) ∧ Mapping es ∧ gErr g = 0) := fun h0 h1 => by
    refine ⟨fun out ho => ?_, fun ho => ?_, (mapE_zero (her.trans h0)).1, hge.trans h1⟩ <;>
    · unfold resE
      rw [her, if_neg (by simpa using h0), if_neg (by simpa using (hge.trans h1)), ho]
  have HE := Lib.hid h
  have HN := Lib.hid hn
  have HS := Lib.hid hsm
  have HX0 := Lib.hid hx
  have HGS := Lib.hid hgs
  have HGN := Lib.hid (And.intro hgn (And.intro hgm hgr))
  have HW := Lib.hid hw1
  have HC := Lib.hid hc1
  have HRB := Lib.hid hrb
  have HKC := Lib.hid KC
  have q0 := hrb.c0
  have q1 := hrb.c1
  have q2 := hrb.c2
  clear h hn hsm hw1 hc1 KC her hx hgs hgn hgm hgr hrb hge
  go_enter Tryz.func25, Tryz.ntmps25
  by_cases h0 : er = 0
  · subst h0
    have HV1' := HV1 rfl
    have HV2' := HV2 rfl
    clear HV0 HV1 HV2
    go_wp2_with fail
    rw [← HW.out]
    refine HKC.out.mono ?_
    rintro e w2 ⟨rfl, hc2⟩
    have HC12 : Hid (Calm w1 w2) := hc2
    have r2 := HRB.out.calm hc2
    have q0 := r2.c0
    have q1 := r2.c1
    have q2 := r2.c2
    clear hc2 r2
    by_cases h1 : ge = 0
    · subst h1
      have HV := HV2' rfl
      clear HV1' HV2'
      go_wp2_with fail
      refine (KG.out w2 HC12.out).mono ?_
      rintro e w3 ⟨rfl, hc3⟩
      obtain ⟨G, hG⟩ : ∃ G, w3.heap.size = G := ⟨_, rfl⟩
      obtain ⟨w4, hw4⟩ : ∃ w4, w4 = w3.alloc (.cells #[.slice none 0 0, .bool false] 66) := ⟨_, rfl⟩
      have HC14 : Hid (Calm w1 w4) := by
        show Calm w1 w4
        rw [hw4]
        exact (HC12.out.trans hc3).alloc _
      have HCol : Hid (ColA w1 w4 G []) := by
        show ColA w1 w4 G []
        rw [hw4, ← hG]
        exact colA_new (HC12.out.trans hc3)
      have HW4 := Lib.hid hw4
      have HG := Lib.hid hG
      clear hc3 hw4 hG q0 q1 q2
      go_wp2_with fail
      rw [← HW4.out, HG.out]
      go_loopw [25] (fun u wr => ∃ (k : Nat) (out : List Ent), k ≤ n ∧ u = .int .i64 k ∧ Hid (ResTo g es k out) ∧ Hid (ColA w1 wr G out)) (fun u _ => n - (intOf u).toNat)
      case atStart => exact ⟨0, [], Nat.zero_le _, rfl, ResTo.zero g es, HCol.out⟩
      case round =>
        obtain ⟨k, out, hk, rfl, HT, HCr⟩ := hrel
        obtain ⟨wq, rfl⟩ : ∃ wq, wq = wr := ⟨_, rfl⟩
        have HCq : Hid (Calm w1 wq) := HCr.out.calm
        by_cases hlt : k < n
        · obtain ⟨b, o, z, rfl, hb, hz, c0, c1, c2, c3, c4, hua⟩ := (HE.out.calm (HC.out.trans HCq.out)).get (k := k) (by rw [HN.out]; exact hlt)
          have hmem := List.mem_of_getElem? hz
          have hgd := HV.out.2.2.1.good z.e hmem
          have hss := HS.out _ hmem
          have hu := hua.few hss hgd.2
          have hsR : SmallR z.e.rule := ⟨by have := hss.lp; show z.e.left.parts.length ≤ _; omega, fun s hs' => by have := hss.ls s hs'; omega, by have := hss.rp; show z.e.right.parts.length ≤ _; omega, fun s hs' => by have := hss.rs s hs'; omega⟩
          have h64 : z.e.hs.length ≤ 64 := (gErr_zero hgd.2).2.2
          have hgood : ∀ p ∈ z.e.hs ++ g.hs, patErr p = 0 := fun p hp => (List.mem_append.1 hp).elim ((gErr_zero hgd.2).2.1 p) ((gErr_zero HV.out.2.2.2).2.1 p)
          have hgh : g.hs.length ≤ 64 := (gErr_zero HV.out.2.2.2).2.2
          obtain ⟨nl, hnl⟩ : ∃ nl, z.e.left.parts.length = nl := ⟨_, rfl⟩
          obtain ⟨nr, hnr⟩ : ∃ nr, z.e.right.parts.length = nr := ⟨_, rfl⟩
          obtain ⟨lr, hlr⟩ : ∃ lr, z.e.left.rest = lr := ⟨_, rfl⟩
          obtain ⟨rr, hrr⟩ : ∃ rr, z.e.right.rest = rr := ⟨_, rfl⟩
          obtain ⟨hn, hhn⟩ : ∃ hn, z.e.hs.length = hn := ⟨_, rfl⟩
          rw [hnl] at c0
          rw [hlr] at c1
          rw [hnr] at c2
          rw [hrr] at c3
          rw [hhn] at c4
          obtain ⟨B, hB⟩ : ∃ B, wq.heap.size = B := ⟨_, rfl⟩
          obtain ⟨wb, hwb⟩ : ∃ wb, wb = wq.alloc (.cells #[.slice z.LA nl z.lc, .bool lr, .slice z.RA nr z.rc, .bool rr, .slice z.HA hn z.hc] 51) := ⟨_, rfl⟩
          have hf : FiveB wb B (.slice z.LA nl z.lc) (.bool lr) (.slice z.RA nr z.rc) (.bool rr) (.slice z.HA hn z.hc) := by
            rw [hwb, ← hB]
            exact FiveB.new wq _ _ _ _ _ _
          have hcb : Calm wq wb := by
            show Below _ _ _
            rw [hwb]
            exact (Calm.refl _).alloc _
          have KLn : Hid (∀ W, Calls Tryz.prog 50 #[entV z.LA z.RA z.HA nl z.lc nr z.rc hn z.hc lr rr] W fun e w' => e = .returned (.agg #[.bool false, .slice z.LA nl z.lc, .bool lr, .slice z.RA nr z.rc, .bool rr]) ∧ Calm W w') := fun W => line_c _ _ _ _ _ _ _ _ _ _ _ W
          have KN : Hid (∀ W, Calm wb W → Calls Tryz.prog 57 #[.agg #[.bool false, .slice z.LA nl z.lc, .bool lr, .slice z.RA nr z.rc, .bool rr], .agg #[.slice gA gn gc, .bool gr]] W fun e w' => NarEnd (narL z.e.rule g.b) W.heap.size e w' ∧ Calm W w') := fun W hW => by
            have huW := hu.calm (hcb.trans hW)
            have hpW := (HX0.out.calm (HC.out.trans (HCq.out.trans (hcb.trans hW)))).pat HGS.out HV.out.2.2.2
            have := nleft_c z.e.rule g.b z.pl gn gc gr gA W ⟨huW.l.r.toU, huW.r.r.toU, huW.l.room, huW.r.room, huW.l.cap, huW.r.cap⟩ hsR hpW HGN.out.1 HGN.out.2.2
            unfold ruleV Ent.rule NewE.pl at this
            simp only [hnl, hnr, hlr, hrr] at this
            exact this
          have KCat : Hid (∀ (W : World) (D : Nat), Calm wb W → W.cell? ⟨D, 0, none⟩ = some (.slice z.HA hn z.hc) → W.cell? ⟨D, 1, none⟩ = some (.slice gHA gm ghc) → D < W.heap.size → Calls Tryz.prog 58 #[.slice (some ⟨D, 0, none⟩) 2 2] W fun e w' => (∃ A9 c9, e = .returned (.slice A9 (hn + gm) c9) ∧ PatsR w' A9 (z.e.hs ++ g.hs)) ∧ Calm W w') := fun W D hW k0 k1 hD => by
            have huW := hu.calm (hcb.trans hW)
            have hqW := (HX0.out.calm (HC.out.trans (HCq.out.trans (hcb.trans hW)))).pats HGS.out HV.out.2.2.2
            have := concat_c z.e.hs g.hs z.HA gHA hn gm z.hc ghc D 2 W huW.h hqW hhn HGN.out.2.1 (by have h1 := HGN.out.2.1; omega) k0 k1 hD
            unfold CatEnd at this
            rw [List.length_append, hhn, HGN.out.2.1] at this
            exact this
          have HSX : Hid (∀ W : World, Calm wb W → W.cell? ⟨B, 0, none⟩ = some (.slice z.LA nl z.lc) ∧ W.cell? ⟨B, 1, none⟩ = some (.bool lr) ∧ W.cell? ⟨B, 2, none⟩ = some (.slice z.RA nr z.rc) ∧ W.cell? ⟨B, 3, none⟩ = some (.bool rr) ∧ W.cell? ⟨B, 4, none⟩ = some (.slice z.HA hn z.hc) ∧ W.cell? ⟨w.heap.size, 0, none⟩ = some (.slice gA gn gc) ∧ W.cell? ⟨w.heap.size, 1, none⟩ = some (.bool gr)) := fun W hW => by
            have b := hf.calm hW
            have q := HRB.out.calm (HCq.out.trans (hcb.trans hW))
            exact ⟨b.c0, b.c1, b.c2, b.c3, b.c4, q.c0, q.c1⟩
          have HZ := Lib.hid hz
          have HF := Lib.hid hf
          have HCb := Lib.hid hcb
          have HWb := Lib.hid hwb
          have HBB := Lib.hid hB
          have HHn := Lib.hid (And.intro hhn h64)
          have HGd := Lib.hid hgood
          have HGh := Lib.hid hgh
          have HSs := Lib.hid hss
          have hsq : w1.heap.size ≤ wb.heap.size := (HCq.out.trans HCb.out).size
          clear hz hu hua hnl hnr hlr hrr hhn hf hcb hwb hB hmem hgd hss hsR h64 hgood hgh
          go_upto_region 10 with (fail)
          rw [← HWb.out, HBB.out]
          obtain ⟨⟨o', x⟩, hX⟩ : ∃ X, narL z.e.rule g.b = X := ⟨_, rfl⟩
          rw [hX] at KN
          have HX := Lib.hid hX
          clear c0 c1 c2 c3 c4 hX
          rcases o' with _ | m
          · have KN1 : Hid (∀ W, Calm wb W → Calls Tryz.prog 57 #[.agg #[.bool false, .slice z.LA nl z.lc, .bool lr, .slice z.RA nr z.rc, .bool rr], .agg #[.slice gA gn gc, .bool gr]] W fun e w' => e = .returned (.tuple #[.agg #[.bool false, .slice none 0 0, .bool false, .slice none 0 0, .bool false], .bool false, .int .i64 x]) ∧ Calm W w') := fun W hW => (KN.out W hW).mono fun e w' h => by
              obtain ⟨h1, h2⟩ := h
              refine ⟨?_, h2⟩
              rcases h1 with ⟨_, h1⟩ | ⟨m, a2, h1, _⟩
              · exact h1
              · cases h1
            clear KN
            go_cut [11, 12] (fun s u wx => s = .bool false ∧ u = .int .i64 x ∧ Hid (Calm wb wx))
            case first =>
              go_region_held3 (fun W => W.cell? ⟨B, 0, none⟩ = some (.slice z.LA nl z.lc) ∧ W.cell? ⟨B, 1, none⟩ = some (.bool lr) ∧ W.cell? ⟨B, 2, none⟩ = some (.slice z.RA nr z.rc) ∧ W.cell? ⟨B, 3, none⟩ = some (.bool rr) ∧ W.cell? ⟨B, 4, none⟩ = some (.slice z.HA hn z.hc) ∧ W.cell? ⟨w.heap.size, 0, none⟩ = some (.slice gA gn gc) ∧ W.cell? ⟨w.heap.size, 1, none⟩ = some (.bool gr))
                (first
                  | with_reducible exact HSX.out _ (calm5 hcy hcx.size _ _ _ _ _)
                  | with_reducible exact HSX.out _ (calm5 hcy (Nat.le_refl _) _ _ _ _ _)
                  | with_reducible exact HSX.out _ hcy
                  | with_reducible exact HSX.out _ (hcy.alloc _)
                  | with_reducible exact HSX.out _ hcx
                  | with_reducible exact HSX.out _ (hcx.alloc _)
                  | with_reducible exact HSX.out _ (Calm.refl _)
                  | with_reducible exact HSX.out _ (Below.drew (Calm.refl _))
                  | with_reducible exact HSX.out _ (Below.drew ((Calm.refl _).alloc _))
                  | with_reducible exact HSX.out _ ((Calm.refl _).alloc _)
                  | go_keep)
                (first
                  | (go_at_call 50; refine (KLn.out _).mono ?_; rintro e w4 ⟨rfl, hc4⟩; have hcx : Calm wb w4 := Calm.trans (by first | exact Below.drew (Calm.refl _) | exact Below.drew ((Calm.refl _).alloc _) | exact (Calm.refl _).alloc _ | exact Calm.refl _) hc4)
                  | (go_at_call 57; refine (KN1.out _ (hcx.trans (by first | exact Calm.refl _ | exact (Calm.refl _).alloc _))).mono ?_; rintro e w5 ⟨rfl, hc5⟩; have hcy : Calm wb w5 := Calm.trans (hcx.trans (by first | exact Calm.refl _ | exact (Calm.refl _).alloc _)) hc5; (first | (with_reducible have hZ5 : FiveB w5 w4.heap.size (.bool false) (.slice none 0 0) (.bool false) (.slice none 0 0) (.bool false) := FiveB.calm (FiveB.new w4 _ _ _ _ _ _) hc5) | (with_reducible have hZ5 : FiveB w5 wb.heap.size (.bool false) (.slice none 0 0) (.bool false) (.slice none 0 0) (.bool false) := FiveB.calm (FiveB.calm (five_drew wb _) hc4) hc5) | skip); try (have z0 := hZ5.c0; have z1 := hZ5.c1; have z2 := hZ5.c2; have z3 := hZ5.c3; have z4 := hZ5.c4; have f0 := hZ5.fz 0; have f1 := hZ5.fz 1; have f2 := hZ5.fz 2; have f3 := hZ5.fz 3; have f4 := hZ5.fz 4)))
              all_goals
                go_wp2_with fail
                go_meet
                case rel =>
                  first
                    | (refine ⟨rfl, rfl, Lib.hid ?_⟩; with_reducible exact hcy.alloc _)
                    | (refine ⟨rfl, rfl, Lib.hid ?_⟩; with_reducible exact hcy)
                    | (refine ⟨rfl, rfl, Lib.hid ?_⟩; with_reducible exact calm5 hcy hcx.size _ _ _ _ _)
                    | (refine ⟨rfl, rfl, Lib.hid ?_⟩; with_reducible exact calm5 hcy (Nat.le_refl _) _ _ _ _ _)
            case rest =>
              obtain ⟨rfl, rfl, HR⟩ := hcut
              have HCx : Hid (Calm wq wc) := HCb.out.trans HR.out
              by_cases hx0 : x = 0
              · subst hx0
                have HT2 : Hid (ResTo g es (k + 1) (out ++ [])) := HT.out.step HZ.out (resL_miss (by rw [HX.out]) (by rw [HX.out])) (Nat.zero_le _)
                go_wp2_with fail
                go_roundw
                case rel => exact ⟨k + 1, out, by omega, by go_num, by have := HT2.out; rw [List.append_nil] at this; exact this, HCr.out.to HCx.out⟩
                case measure => simp [intOf]; omega
              · have hx1 : (x == 0) = false := by rw [beq_eq_false_iff_ne]; exact hx0
                have hx2 : (x != 0) = true := by simpa using hx0
                have HNo : Hid (resE es g = ([], 72)) := HV.out.2.1 (resTo_stop HZ.out (resL_bad (by rw [HX.out]; exact hx0)))
                clear hx0
                go_wp2_with fail
                go_ret2
                exact ⟨by rw [HNo.out]; exact entOut_err _ _ _, HC.out.trans (HCq.out.trans HCx.out)⟩
          · obtain ⟨rfl, hme⟩ : x = 0 ∧ m.excl = false := by
              have h1 : (narL z.e.rule g.b).1 = some m := by rw [HX.out]
              obtain ⟨_, _, g3, m', _, rfl, _, _⟩ := narL_some h1
              rw [HX.out] at g3
              exact ⟨g3, rfl⟩
            have hm1 : (narL z.e.rule g.b).1 = some m := by rw [HX.out]
            have HMt : Hid (Sy.Twin m.left m.right) := ruleErr_twin.1 (narL_good hm1)
            have HMl : Hid (∀ s ∈ m.left.parts, s.length ≤ 16384) := fun s hs' => by
              have := narL_left hm1 (L := 250) (by decide) HSs.out.ls HGS.out.b s hs'
              omega
            have HMr : Hid (∀ s ∈ m.right.parts, s.length ≤ 16384) := fun s hs' => by
              have := narL_each hm1 (L := 250) (by decide) HSs.out.ls HSs.out.rs HGS.out.b s hs'
              omega
            obtain ⟨ml, hml⟩ : ∃ ml, m.left.parts.length = ml := ⟨_, rfl⟩
            obtain ⟨mr, hmr⟩ : ∃ mr, m.right.parts.length = mr := ⟨_, rfl⟩
            obtain ⟨tl, htl⟩ : ∃ tl, m.left.rest = tl := ⟨_, rfl⟩
            obtain ⟨tr, htr⟩ : ∃ tr, m.right.rest = tr := ⟨_, rfl⟩
            have KN1 : Hid (∀ W, Calm wb W → Calls Tryz.prog 57 #[.agg #[.bool false, .slice z.LA nl z.lc, .bool lr, .slice z.RA nr z.rc, .bool rr], .agg #[.slice gA gn gc, .bool gr]] W fun e w' => (∃ a2, e = .returned (.tuple #[.agg #[.bool false, .slice a2.AL ml a2.cl, .bool tl, .slice a2.AR mr a2.cr, .bool tr], .bool true, .int .i64 0]) ∧ RuleN w' W.heap.size a2 m) ∧ Calm W w') := fun W hW => (KN.out W hW).mono fun e w' h => by
              obtain ⟨h1, h2⟩ := h
              refine ⟨?_, h2⟩
              rcases h1 with ⟨h1, _⟩ | ⟨m', a2, h1, h3, h4⟩
              · cases h1
              · obtain rfl : m = m' := by simpa using h1
                refine ⟨a2, ?_, h4⟩
                rw [h3]
                unfold ruleV
                rw [hme, hml, hmr, htl, htr]
            have KP : Hid (∀ (W : World) (a2 : Pl) (PA : Option Addr) (pc : Nat), Calm wq W → NewS W wb.heap.size a2.AL a2.cl m.left.parts → NewS W wb.heap.size a2.AR a2.cr m.right.parts → PatsR W PA (z.e.hs ++ g.hs) → Calls Tryz.prog 40 #[.pointer (some ⟨G, 0, none⟩), .agg #[.bool false, .slice a2.AL ml a2.cl, .bool tl, .slice a2.AR mr a2.cr, .bool tr], .slice PA (hn + gm) pc] W fun e w' => PutEnd w1 w' G out m (z.e.hs ++ g.hs) e ∧ FrB W w' wq.heap.size) := fun W a2 PA pc hW h1 h2 hP => by
              have hL : PatA W a2.AL a2.cl m.left := ⟨h1.u.toR (by have := (patErr_iff.1 HMt.out.lp).2.2.1; omega) HMl.out, h1.room, h1.cap⟩
              have hR : PatA W a2.AR a2.cr m.right := ⟨h2.u.toR (by have := (patErr_iff.1 HMt.out.rp).2.2.1; omega) HMr.out, h2.room, h2.cap⟩
              exact put_k w1 wq W G out m (z.e.hs ++ g.hs) a2 false ml mr (hn + gm) pc tl tr PA HCr.out hW hL hR hml hmr htl htr (fun W2 hW2 => mreduce_c m.left (z.e.hs ++ g.hs) a2.AL a2.cl PA ml (hn + gm) pc tl W2 (hL.calm hW2) (hP.calm hW2) hml htl (by rw [List.length_append, HHn.out.1, HGN.out.2.1]) HMt.out.lp HGd.out)
            have HM1 := Lib.hid hm1
            clear KN hme hml hmr htl htr hm1
            go_cut [10, 11, 12] (fun s t u wx => ∃ B10 a2, s = .pointer (some ⟨B10, 0, none⟩) ∧ t = .bool true ∧ u = .int .i64 0 ∧ Hid (LineB wb wx B10 wb.heap.size a2 m (.bool false) (.slice a2.AL ml a2.cl) (.bool tl) (.slice a2.AR mr a2.cr) (.bool tr)))
            case first =>
              go_region_held3 (fun W => W.cell? ⟨B, 0, none⟩ = some (.slice z.LA nl z.lc) ∧ W.cell? ⟨B, 1, none⟩ = some (.bool lr) ∧ W.cell? ⟨B, 2, none⟩ = some (.slice z.RA nr z.rc) ∧ W.cell? ⟨B, 3, none⟩ = some (.bool rr) ∧ W.cell? ⟨B, 4, none⟩ = some (.slice z.HA hn z.hc) ∧ W.cell? ⟨w.heap.size, 0, none⟩ = some (.slice gA gn gc) ∧ W.cell? ⟨w.heap.size, 1, none⟩ = some (.bool gr))
                (first
                  | with_reducible exact HSX.out _ (calm5 hcy hcx.size _ _ _ _ _)
                  | with_reducible exact HSX.out _ (calm5 hcy (Nat.le_refl _) _ _ _ _ _)
                  | with_reducible exact HSX.out _ hcy
                  | with_reducible exact HSX.out _ (hcy.alloc _)
                  | with_reducible exact HSX.out _ hcx
                  | with_reducible exact HSX.out _ (hcx.alloc _)
                  | with_reducible exact HSX.out _ (Calm.refl _)
                  | with_reducible exact HSX.out _ (Below.drew (Calm.refl _))
                  | with_reducible exact HSX.out _ (Below.drew ((Calm.refl _).alloc _))
                  | with_reducible exact HSX.out _ ((Calm.refl _).alloc _)
                  | go_keep)
                (first
                  | (go_at_call 50; refine (KLn.out _).mono ?_; rintro e w4 ⟨rfl, hc4⟩; have hcx : Calm wb w4 := Calm.trans (by first | exact Below.drew (Calm.refl _) | exact Below.drew ((Calm.refl _).alloc _) | exact (Calm.refl _).alloc _ | exact Calm.refl _) hc4)
                  | (go_at_call 57; refine (KN1.out _ (hcx.trans (by first | exact Calm.refl _ | exact (Calm.refl _).alloc _))).mono ?_; rintro e w5 ⟨⟨a2, rfl, hN5⟩, hc5⟩; have hcy : Calm wb w5 := Calm.trans (hcx.trans (by first | exact Calm.refl _ | exact (Calm.refl _).alloc _)) hc5; (first | (with_reducible have hZ5 : FiveB w5 w4.heap.size (.bool false) (.slice none 0 0) (.bool false) (.slice none 0 0) (.bool false) := FiveB.calm (FiveB.new w4 _ _ _ _ _ _) hc5) | (with_reducible have hZ5 : FiveB w5 wb.heap.size (.bool false) (.slice none 0 0) (.bool false) (.slice none 0 0) (.bool false) := FiveB.calm (FiveB.calm (five_drew wb _) hc4) hc5) | skip); try (have z0 := hZ5.c0; have z1 := hZ5.c1; have z2 := hZ5.c2; have z3 := hZ5.c3; have z4 := hZ5.c4; have f0 := hZ5.fz 0; have f1 := hZ5.fz 1; have f2 := hZ5.fz 2; have f3 := hZ5.fz 3; have f4 := hZ5.fz 4)))
              all_goals
                have hs7 := hc4.size
                have hs8 := hcx.size
                have hs9 := hc5.size
                simp [go_sem] at hs7
                go_wp2_with fail
                go_meet
                case rel =>
                  first
                    | (refine ⟨_, a2, rfl, rfl, rfl, Lib.hid ?_⟩; with_reducible exact lineB_new hcy (by omega) hN5)
                    | (refine ⟨_, a2, rfl, rfl, rfl, Lib.hid ?_⟩; with_reducible exact lineB_set hZ5 hcy hs8 (by simp [go_sem]) (by simp [go_sem]; omega) hN5)
                    | (refine ⟨_, a2, rfl, rfl, rfl, Lib.hid ?_⟩; with_reducible exact lineB_set hZ5 hcy (Nat.le_refl _) (by omega) (by omega) hN5)
            case rest =>
              obtain ⟨B10, a2, rfl, rfl, rfl, HR⟩ := hcut
              obtain ⟨wx, rfl⟩ : ∃ wx, wx = wc := ⟨_, rfl⟩
              have HCx : Hid (Calm wb wx) := HR.out.calm
              have HFx : Hid (∀ W : World, Calm wx W → W.cell? ⟨B10, 0, none⟩ = some (.bool false) ∧ W.cell? ⟨B10, 1, none⟩ = some (.slice a2.AL ml a2.cl) ∧ W.cell? ⟨B10, 2, none⟩ = some (.bool tl) ∧ W.cell? ⟨B10, 3, none⟩ = some (.slice a2.AR mr a2.cr) ∧ W.cell? ⟨B10, 4, none⟩ = some (.bool tr) ∧ W.cell? ⟨B, 4, none⟩ = some (.slice z.HA hn z.hc) ∧ W.cell? ⟨w.heap.size, 2, none⟩ = some (.slice gHA gm ghc)) := fun W hW => by
                have b := HR.out.five.calm hW
                have d := HF.out.calm (HCx.out.trans hW)
                have q := HRB.out.calm (HCq.out.trans (HCb.out.trans (HCx.out.trans hW)))
                exact ⟨b.c0, b.c1, b.c2, b.c3, b.c4, d.c4, q.c2⟩
              have KCat2 : Hid (∀ (W : World) (T : TypeId), Calm wx W → Calls Tryz.prog 58 #[.slice (some ⟨W.heap.size, 0, none⟩) 2 2] (W.alloc (.cells #[.slice z.HA hn z.hc, .slice gHA gm ghc] T)) fun e w' => (∃ A9 c9, e = .returned (.slice A9 (hn + gm) c9) ∧ PatsR w' A9 (z.e.hs ++ g.hs)) ∧ Calm wx w') := fun W T hW => by
                refine (KCat.out (W.alloc (.cells #[.slice z.HA hn z.hc, .slice gHA gm ghc] T)) W.heap.size (HCx.out.trans (hW.alloc _)) (by simp) (by simp) (by simp)).mono ?_
                rintro e w' ⟨h1, h2⟩
                exact ⟨h1, Calm.trans (hW.alloc _) h2⟩
              have HNw : Hid (∀ W : World, Calm wx W → NewS W wb.heap.size a2.AL a2.cl m.left.parts ∧ NewS W wb.heap.size a2.AR a2.cr m.right.parts) := fun W hW => ⟨HR.out.new.l.calm hW, HR.out.new.r.calm hW⟩
              have HFp : Hid (∀ W W' : World, Calm wx W → FrB W W' wq.heap.size → Calm w1 W' → W'.cell? ⟨B10, 0, none⟩ = some (.bool false) ∧ W'.cell? ⟨B10, 1, none⟩ = some (.slice a2.AL ml a2.cl) ∧ W'.cell? ⟨B10, 2, none⟩ = some (.bool tl) ∧ W'.cell? ⟨B10, 3, none⟩ = some (.slice a2.AR mr a2.cr) ∧ W'.cell? ⟨B10, 4, none⟩ = some (.bool tr) ∧ W'.cell? ⟨B, 4, none⟩ = some (.slice z.HA hn z.hc) ∧ W'.cell? ⟨w.heap.size, 2, none⟩ = some (.slice gHA gm ghc)) := fun W W' hW hf h1 => by
                have b := HR.out.five.calm hW
                have d := HF.out.calm (HCx.out.trans hW)
                have q := HRB.out.calm h1
                have e1 := hf B10 (by have := HR.out.lo; have := HCb.out.size; omega) b.lt
                have e2 := hf B (by have := HBB.out; omega) d.lt
                exact ⟨(World.cell?_of_block (a := ⟨B10, 0, none⟩) e1).trans b.c0, (World.cell?_of_block (a := ⟨B10, 1, none⟩) e1).trans b.c1, (World.cell?_of_block (a := ⟨B10, 2, none⟩) e1).trans b.c2, (World.cell?_of_block (a := ⟨B10, 3, none⟩) e1).trans b.c3, (World.cell?_of_block (a := ⟨B10, 4, none⟩) e1).trans b.c4, (World.cell?_of_block (a := ⟨B, 4, none⟩) e2).trans d.c4, q.c2⟩
              go_upto_region 14 with (fail)
              obtain ⟨PH, hPH⟩ : ∃ PH, putH m (z.e.hs ++ g.hs) = PH := ⟨_, rfl⟩
              have HPH := Lib.hid hPH
              clear hPH
              cases PH with
              | none =>
                have KP1 : Hid (∀ (W : World) (a2 : Pl) (PA : Option Addr) (pc : Nat), Calm wq W → NewS W wb.heap.size a2.AL a2.cl m.left.parts → NewS W wb.heap.size a2.AR a2.cr m.right.parts → PatsR W PA (z.e.hs ++ g.hs) → Calls Tryz.prog 40 #[.pointer (some ⟨G, 0, none⟩), .agg #[.bool false, .slice a2.AL ml a2.cl, .bool tl, .slice a2.AR mr a2.cr, .bool tr], .slice PA (hn + gm) pc] W fun e w' => (e = .returned (.int .i64 72) ∧ ColA w1 w' G out) ∧ FrB W w' wq.heap.size) := fun W a2 PA pc hW h1 h2 hP => (KP.out W a2 PA pc hW h1 h2 hP).mono fun e w' h => ⟨PutEnd.none h.1 HPH.out, h.2⟩
                have HNo : Hid (resE es g = ([], 72)) := HV.out.2.1 (resTo_stop HZ.out (resL_far (by rw [HX.out]) HM1.out HPH.out))
                go_cut [13] (fun s wx2 => s = .int .i64 72 ∧ Hid (ColA w1 wx2 G out))
                case first =>
                  go_region_held3 (fun W => W.cell? ⟨B10, 0, none⟩ = some (.bool false) ∧ W.cell? ⟨B10, 1, none⟩ = some (.slice a2.AL ml a2.cl) ∧ W.cell? ⟨B10, 2, none⟩ = some (.bool tl) ∧ W.cell? ⟨B10, 3, none⟩ = some (.slice a2.AR mr a2.cr) ∧ W.cell? ⟨B10, 4, none⟩ = some (.bool tr) ∧ W.cell? ⟨B, 4, none⟩ = some (.slice z.HA hn z.hc) ∧ W.cell? ⟨w.heap.size, 2, none⟩ = some (.slice gHA gm ghc))
                    (first
                      | with_reducible exact HFx.out _ (Calm.refl _)
                      | with_reducible exact HFx.out _ (Below.drew (Calm.refl _))
                      | with_reducible exact HFx.out _ ((Calm.refl _).alloc _)
                      | with_reducible exact HFx.out _ (Below.drew ((Calm.refl _).alloc _))
                      | with_reducible exact HFx.out _ ((Below.drew (Calm.refl _)).alloc _)
                      | with_reducible exact HFp.out _ _ hcs hf8 hcol.calm
                      | with_reducible exact HFx.out _ hcs
                      | go_keep)
                    (first
                      | (go_at_call 58; (first | refine (KCat2.out _ _ (Below.drew (Calm.refl _))).mono ?_ | refine (KCat2.out _ _ (Calm.refl _)).mono ?_); rintro e w7 ⟨⟨A9, c9, rfl, hP7⟩, hcs⟩)
                      | (go_at_call 40; refine (KP1.out _ _ _ _ (HCb.out.trans (HCx.out.trans hcs)) (HNw.out _ hcs).1 (HNw.out _ hcs).2 hP7).mono ?_; rintro e w8 ⟨⟨rfl, hcol⟩, hf8⟩))
                  all_goals
                    go_wp2_with fail
                    go_meet
                    case rel => exact ⟨rfl, hcol⟩
                case rest =>
                  obtain ⟨rfl, HCol2⟩ := hcut
                  go_wp2_with fail
                  go_ret2
                  exact ⟨by rw [HNo.out]; exact entOut_err _ _ _, HC.out.trans HCol2.out.calm⟩
              | some oo =>
                have KP1 : Hid (∀ (W : World) (a2 : Pl) (PA : Option Addr) (pc : Nat), Calm wq W → NewS W wb.heap.size a2.AL a2.cl m.left.parts → NewS W wb.heap.size a2.AR a2.cr m.right.parts → PatsR W PA (z.e.hs ++ g.hs) → Calls Tryz.prog 40 #[.pointer (some ⟨G, 0, none⟩), .agg #[.bool false, .slice a2.AL ml a2.cl, .bool tl, .slice a2.AR mr a2.cr, .bool tr], .slice PA (hn + gm) pc] W fun e w' => (e = .returned (.int .i64 0) ∧ ColA w1 w' G (out ++ oo.toList)) ∧ FrB W w' wq.heap.size) := fun W a2 PA pc hW h1 h2 hP => (KP.out W a2 PA pc hW h1 h2 hP).mono fun e w' h => ⟨PutEnd.some h.1 HPH.out, h.2⟩
                have HT2 : Hid (ResTo g es (k + 1) (out ++ oo.toList)) := HT.out.step HZ.out (resL_hit (by rw [HX.out]) HM1.out HPH.out) (by cases oo <;> simp)
                go_cut [13] (fun s wx2 => s = .int .i64 0 ∧ Hid (ColA w1 wx2 G (out ++ oo.toList)))
                case first =>
                  go_region_held3 (fun W => W.cell? ⟨B10, 0, none⟩ = some (.bool false) ∧ W.cell? ⟨B10, 1, none⟩ = some (.slice a2.AL ml a2.cl) ∧ W.cell? ⟨B10, 2, none⟩ = some (.bool tl) ∧ W.cell? ⟨B10, 3, none⟩ = some (.slice a2.AR mr a2.cr) ∧ W.cell? ⟨B10, 4, none⟩ = some (.bool tr) ∧ W.cell? ⟨B, 4, none⟩ = some (.slice z.HA hn z.hc) ∧ W.cell? ⟨w.heap.size, 2, none⟩ = some (.slice gHA gm ghc))
                    (first
                      | with_reducible exact HFx.out _ (Calm.refl _)
                      | with_reducible exact HFx.out _ (Below.drew (Calm.refl _))
                      | with_reducible exact HFx.out _ ((Calm.refl _).alloc _)
                      | with_reducible exact HFx.out _ (Below.drew ((Calm.refl _).alloc _))
                      | with_reducible exact HFx.out _ ((Below.drew (Calm.refl _)).alloc _)
                      | with_reducible exact HFp.out _ _ hcs hf8 hcol.calm
                      | with_reducible exact HFx.out _ hcs
                      | go_keep)
                    (first
                      | (go_at_call 58; (first | refine (KCat2.out _ _ (Below.drew (Calm.refl _))).mono ?_ | refine (KCat2.out _ _ (Calm.refl _)).mono ?_); rintro e w7 ⟨⟨A9, c9, rfl, hP7⟩, hcs⟩)
                      | (go_at_call 40; refine (KP1.out _ _ _ _ (HCb.out.trans (HCx.out.trans hcs)) (HNw.out _ hcs).1 (HNw.out _ hcs).2 hP7).mono ?_; rintro e w8 ⟨⟨rfl, hcol⟩, hf8⟩))
                  all_goals
                    go_wp2_with fail
                    go_meet
                    case rel => exact ⟨rfl, hcol⟩
                case rest =>
                  obtain ⟨rfl, HCol2⟩ := hcut
                  go_wp2_with fail
                  go_roundw
                  case rel => exact ⟨k + 1, out ++ oo.toList, by omega, by go_num, HT2.out, HCol2.out⟩
                  case measure => simp [intOf]; omega
        · obtain rfl : k = n := by omega
          have HRs := Lib.hid (resultE_a w1 wq G _ HCr.out)
          have HFin : Hid (out = (resE es g).1 ∧ (resE es g).2 = 0 ∧ ¬ 32 < out.length) := by
            have h1 := HT.out.all (by rw [HN.out]; exact Nat.le_refl _)
            have h2 := HV.out.1 out h1
            rw [h2]
            refine ⟨rfl, rfl, ?_⟩
            have := HT.out.2
            have := HV.out.2.2.1.few
            have := HN.out
            omega
          go_wp2_with fail
          refine HRs.out.mono ?_
          rintro e w6 ⟨hR, hc6⟩
          have hO := hR.out
          rw [if_neg HFin.out.2.2, if_neg HFin.out.2.2, HFin.out.1] at hO
          obtain ⟨A6, c6, rfl, r1, r2, zs, r3, r4, r5⟩ := hO
          have HD : Hid (EntOut (resE es g).1 (resE es g).2 w.heap.size (.returned (.tuple #[.slice A6 (resE es g).1.length c6, .int .i64 0])) w6) := by
            rw [HFin.out.2.1]
            exact ⟨A6, c6, rfl, r1, r2, zs, r3, r4, fun z hz => (r5 z hz).mono HC.out.size⟩
          have HC6 : Hid (Calm w w6) := HC.out.trans hc6
          clear r1 r2 r3 r4 r5 hR hc6
          generalize (resE es g).1.length = L6 at HD ⊢
          go_wp2_with fail
          go_ret2
          exact ⟨HD.out, HC6.out⟩
    · have HV := HV1' h1
      have hb : (ge != 0) = true := by simpa using h1
      clear HV1' HV2' h1
      go_wp2_with fail
      refine (KG.out w2 HC12.out).mono ?_
      rintro e w3 ⟨rfl, hc3⟩
      have HC3 : Hid (Calm w w3) := HC.out.trans (HC12.out.trans hc3)
      clear q0 q1 q2 hc3
      go_wp2_with fail
      go_ret2
      exact ⟨by rw [HV.out]; exact entOut_err _ _ _, HC3.out⟩
  · have HV := HV0 h0
    have hb : (er != 0) = true := by simpa using h0
    clear HV0 HV1 HV2 h0
    go_wp2_with fail
    rw [← HW.out]
    refine HKC.out.mono ?_
    rintro e w2 ⟨rfl, hc2⟩
    have HC2 : Hid (Calm w w2) := HC.out.trans hc2
    clear q0 q1 q2 hc2
    go_wp2_with fail
    go_ret2
    exact ⟨by rw [HV.out]; exact entOut_err _ _ _, HC2.out⟩
end Go.Proofs.YtmfjppaeddbdaaaGreatDoor
