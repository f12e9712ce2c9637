/- Walk: view.Entries. -/
import Derived.Deep.RegionHeld3
import Derived.Deep.RegionWith
import Derived.Test.YtglnkpgfdjnhnaaGreatDoorZEntP
import Derived.Test.YtglnkpgfdjnhnaaGreatDoorZRed3W
import Derived.Test.YtglnkpgfdjnhnaaGreatDoorZNarRW
import Derived.Test.YtglnkpgfdjnhnaaGreatDoorZVoidA
import Derived.Test.YtglnkpgfdjnhnaaGreatDoorZViewW
set_option linter.unusedVariables false
set_option linter.unusedSimpArgs false
namespace Go.Proofs.YtglnkpgfdjnhnaaGreatDoor
open Go Go.RowKit Sy

set_option maxRecDepth 100000 in
set_option maxHeartbeats 16000000 in
theorem entries_c (rs : List Rule) (RA : Option Addr) (n rc : Nat) (w : World) (hr : RulesU w RA rs) (hsm : ∀ r ∈ rs, SmallV r) (hn : rs.length = n) (h20 : n ≤ 20) (hroom : n ≤ rc) (hcap : rc ≤ 9223372036854775807) :
    Calls Tryz.prog 7 #[.slice RA n rc] w fun e w' => EntEnd (entE rs) e w' ∧ Calm w w' := by
  obtain ⟨ix, hix⟩ : ∃ ix, viewIx rs = ix := ⟨_, rfl⟩
  obtain ⟨x, hx⟩ : ∃ x, viewErr rs = x := ⟨_, rfl⟩
  have KV := vcheck_v rs ix x RA n rc w hr hn hix hx
  have HR := Lib.hid hr
  have HS := Lib.hid hsm
  have HN := Lib.hid hn
  have HX := Lib.hid hx
  clear hr hsm hn hix hx
  go_enter Tryz.func7, Tryz.ntmps7
  go_wp2_with fail
  refine KV.mono ?_
  rintro e w2 ⟨rfl, hc2⟩
  have HC2 := Lib.hid hc2
  clear hc2 KV
  by_cases hx0 : x = 0
  · subst hx0
    have HG : Hid (∀ r ∈ rs, ruleErr r = 0) := (viewErr_ok.1 HX.out).1
    go_wp2_with fail
    go_loopw [6, 26] (fun v u wr => ∃ (i : Nat) (zs : List NewE), i ≤ n ∧ u = .int .i64 i ∧ Hid (EntI w2 wr v rs i zs)) (fun _ u _ => n - (intOf u).toNat)
    case atStart => exact ⟨0, [], Nat.zero_le _, rfl, EntI.nil rs⟩
    case round =>
      obtain ⟨i, zs, hi, rfl, HI⟩ := hrel
      by_cases hlt : i < n
      · obtain ⟨b, o, r, a, rfl, hb, hri, hat, hru⟩ := (HR.out.calm (HC2.out.trans HI.out.own.calm)).get (k := i) (by rw [HN.out]; exact hlt)
        obtain ⟨nl, hnl⟩ : ∃ nl, r.left.parts.length = nl := ⟨_, rfl⟩
        obtain ⟨nr, hnr⟩ : ∃ nr, r.right.parts.length = nr := ⟨_, rfl⟩
        obtain ⟨lr, hlr⟩ : ∃ lr, r.left.rest = lr := ⟨_, rfl⟩
        obtain ⟨rr, hrr⟩ : ∃ rr, r.right.rest = rr := ⟨_, rfl⟩
        obtain ⟨ex, hex⟩ : ∃ ex, r.excl = ex := ⟨_, rfl⟩
        have c0 := hat.c0
        have c1 := hat.c1
        have c2 := hat.c2
        have c3 := hat.c3
        have c4 := hat.c4
        rw [hnl] at c1
        rw [hnr] at c3
        rw [hlr] at c2
        rw [hrr] at c4
        rw [hex] at c0
        have HNN := Lib.hid (And.intro hnl (And.intro hnr (And.intro hlr (And.intro hrr hex))))
        have HRi := Lib.hid hri
        have HRu := Lib.hid hru
        have HSr : Hid (SmallV r) := HS.out r (List.mem_of_getElem? hri)
        clear hat hnl hnr hlr hrr hex hri hru
        cases ex with
        | true =>
          go_wp2_with fail
          go_roundw
          case rel => exact ⟨i + 1, zs, by omega, by go_num, HI.out.skip HRi.out HNN.out.2.2.2.2 ((Calm.refl _).alloc _)⟩
          case measure => simp [intOf]; omega
        | false =>
          have hi1 : (0 : Int) ≤ (i : Int) + 1 := by omega
          have hi2 : (i : Int) + 1 ≤ (n : Int) := by omega
          have hi3 : (n : Int) ≤ (rc : Int) := by omega
          have hi4 : i + 1 ≤ n := by omega
          have hiw : IntKind.i64.wrap ((i : Int) + 1) = (i : Int) + 1 := by rw [IntKind.wrap_i64]; omega
          have hsp : rc = i + 1 ∨ ¬ rc = i + 1 := Decidable.em _
          rcases hsp with rfl | hsp
          all_goals
            go_wp2_with fail
            obtain ⟨w3, hw3⟩ : ∃ w3, w3 = wr.alloc (.cells #[.bool false, .slice a.AL nl a.cl, .bool lr, .slice a.AR nr a.cr, .bool rr] 38) := ⟨_, rfl⟩
            have HB8 : Hid (FiveB w3 wr.heap.size (.bool false) (.slice a.AL nl a.cl) (.bool lr) (.slice a.AR nr a.cr) (.bool rr)) := by
              show FiveB _ _ _ _ _ _ _
              rw [hw3]
              exact FiveB.new wr _ _ _ _ _ _
            have HW3 : Hid (Calm wr w3) := by
              show Below _ _ _
              rw [hw3]
              exact (Calm.refl _).alloc _
            rw [← hw3]
            obtain ⟨B8, hB8⟩ : ∃ B8, wr.heap.size = B8 := ⟨_, rfl⟩
            rw [hB8] at HB8
            simp only [hB8]
            have HBne : Hid (some B8 ≠ u6.ownBlock) := fun e => by
              have := HI.out.own.blk_lt e
              omega
            obtain ⟨L, hL⟩ : ∃ L, n - (i + 1) = L := ⟨_, rfl⟩
            try simp only [hL]
            have HI3 : Hid (EntI w2 w3 u6 rs i zs) := HI.out.calm HW3.out
            have HR3 : Hid (Calm w w3) := HC2.out.trans HI3.out.own.calm
            have HRu3 : Hid (RuleU w3 a r) := HRu.out.calm HW3.out
            have HLs : Hid ((rs.drop (i + 1)).length = L) := by
              show _ = _
              rw [List.length_drop, HN.out]
              exact hL
            have hb3 : b < w3.heap.size := Nat.lt_of_lt_of_le hb HW3.out.size
            have KN : Hid (∀ (q : Rule) (a' : Pl) (qr : Nat) (qrr : Bool) (W : World), RuleU w3 a' q → SmallV q → q.right.parts.length = qr → q.right.rest = qrr → Calm w3 W → Calls Tryz.prog 14 #[.agg #[.bool false, .slice a.AL nl a.cl, .bool lr, .slice a.AR nr a.cr, .bool rr], .agg #[.slice a'.AR qr a'.cr, .bool qrr]] W fun e w' => NarEnd (narR r q.right) W.heap.size e w' ∧ Calm W w') := fun q a' qr qrr W hq hs hql hqr hW => by
              have := nright_c r q.right a qr a'.cr qrr a'.AR W (HRu3.out.calm hW) HSr.out.small ⟨(hq.calm hW).right hs.small, hq.rroom, hq.rcap⟩ hql hqr
              unfold ruleV at this
              rw [HNN.out.1, HNN.out.2.1, HNN.out.2.2.1, HNN.out.2.2.2.1, HNN.out.2.2.2.2] at this
              exact this
            have h40 : L ≤ 20 := by omega
            clear hw3 hB8 c0 c1 c2 c3 c4 HI HRu
            go_loopw [9, 38] (fun h u wr => ∃ (k : Nat) (ys : List NewP), k ≤ L ∧ u = .int .i64 k ∧ Hid (HolI w3 wr h r (rs.drop (i + 1)) k ys)) (fun _ u _ => L - (intOf u).toNat)
            case atStart => exact ⟨0, [], Nat.zero_le _, rfl, HolI.nil _ _⟩
            case round =>
              obtain ⟨k, ys, hk, rfl, HH⟩ := hrel
              obtain ⟨wq, rfl⟩ : ∃ wq, wq = wr := ⟨_, rfl⟩
              by_cases hlt2 : k < L
              · first
                | (exfalso; omega)
                | (have HDr : Hid (RulesU w3 (some ⟨b, o + (i + 1) * 5, none⟩) (rs.drop (i + 1))) := (HR.out.calm HR3.out).drop (fun _ => rfl)
                   obtain ⟨b', o', q, a', e9, hbq, hqi, hqat, hqu⟩ := (HDr.out).get (k := k) (by rw [HLs.out]; exact hlt2)
                   obtain ⟨rfl, rfl⟩ : b = b' ∧ o + (i + 1) * 5 = o' := by simpa using e9
                   obtain ⟨ql, hql⟩ : ∃ ql, q.left.parts.length = ql := ⟨_, rfl⟩
                   obtain ⟨qr, hqr⟩ : ∃ qr, q.right.parts.length = qr := ⟨_, rfl⟩
                   obtain ⟨qlr, hqlr⟩ : ∃ qlr, q.left.rest = qlr := ⟨_, rfl⟩
                   obtain ⟨qrr, hqrr⟩ : ∃ qrr, q.right.rest = qrr := ⟨_, rfl⟩
                   obtain ⟨qx, hqx⟩ : ∃ qx, q.excl = qx := ⟨_, rfl⟩
                   have c0 := hqat.c0
                   have c1 := hqat.c1
                   have c2 := hqat.c2
                   have c3 := hqat.c3
                   have c4 := hqat.c4
                   rw [hql] at c1
                   rw [hqr] at c3
                   rw [hqlr] at c2
                   rw [hqrr] at c4
                   rw [hqx] at c0
                   have c0 := Calm.at_ HH.out.own.calm c0 hb3
                   have c1 := Calm.at_ HH.out.own.calm c1 hb3
                   have c2 := Calm.at_ HH.out.own.calm c2 hb3
                   have c3 := Calm.at_ HH.out.own.calm c3 hb3
                   have c4 := Calm.at_ HH.out.own.calm c4 hb3
                   have HQn := Lib.hid (And.intro hql (And.intro hqr (And.intro hqlr (And.intro hqrr hqx))))
                   have HQi := Lib.hid hqi
                   have HQu := Lib.hid hqu
                   have hqm : q ∈ rs := List.mem_of_mem_drop (List.mem_of_getElem? hqi)
                   have HQs : Hid (SmallV q) := HS.out q hqm
                   have hyl := HH.out.len (fun z hz => HG.out z (List.mem_of_mem_drop hz)) trivial
                   have KN2 := Lib.hid (KN.out q a' qr qrr)
                   clear e9 hqi hqat hqu hql hqr hqlr hqrr hqx hqm
                   have HB11 : Hid (FiveB ((wq.alloc (.cells #[.bool qx, .slice a'.AL ql a'.cl, .bool qlr, .slice a'.AR qr a'.cr, .bool qrr] 38)).alloc (.cells #[.slice a'.AL ql a'.cl, .bool qlr] 36)) wq.heap.size (.bool qx) (.slice a'.AL ql a'.cl) (.bool qlr) (.slice a'.AR qr a'.cr) (.bool qrr)) := (FiveB.new wq _ _ _ _ _ _).calm ((Calm.refl _).alloc _)
                   obtain ⟨⟨no, x⟩, hX⟩ : ∃ X, narR r q.right = X := ⟨_, rfl⟩
                   rw [hX] at KN2
                   have HXn := Lib.hid hX
                   clear hX
                   go_wp2_with (at_builtin; refine wpList_append_ps rfl (.tmp 42) (.tmp 45) rfl w3 _ ys [⟨a'.AL, a'.cl, q.left⟩] rfl (HH.out.own.to (((Calm.refl _).alloc _).alloc _)) _ 1 1 rfl rfl (read_newH ⟨a'.AL, a'.cl, q.left⟩ (by simp) HQn.out.1 HQn.out.2.2.1) (by omega) ?_; intro v5 w5 hown5 hg5; have hblk := hg5.block wq.heap.size HB11.out.lt (fun e => by have := HH.out.own.blk_lt e; omega); have e3 := (World.cell?_of_block (a := ⟨wq.heap.size, 3, none⟩) hblk).trans HB11.out.c3; have e4 := (World.cell?_of_block (a := ⟨wq.heap.size, 4, none⟩) hblk).trans HB11.out.c4; have HO5 := Lib.hid hown5; have HG5 := Lib.hid hg5; have b8 := HB8.out.calm hown5.calm; have d0 := b8.c0; have d1 := b8.c1; have d2 := b8.c2; have d3 := b8.c3; have d4 := b8.c4; clear hblk b8 hown5 hg5)
                   refine (KN2.out w5 HQu.out HQs.out HQn.out.2.1 HQn.out.2.2.2.1 HO5.out.calm).mono ?_
                   rintro e w6 ⟨hE, hc6⟩
                   have HC6 := Lib.hid hc6
                   have hxe : PatA w3 a'.AL a'.cl q.left := ⟨HQu.out.left HQs.out.small, HQu.out.lroom, HQu.out.lcap⟩
                   have HXe := Lib.hid hxe
                   have HAl : Hid (Calm wq ((wq.alloc (.cells #[.bool qx, .slice a'.AL ql a'.cl, .bool qlr, .slice a'.AR qr a'.cr, .bool qrr] 38)).alloc (.cells #[.slice a'.AL ql a'.cl, .bool qlr] 36))) := ((Calm.refl _).alloc _).alloc _
                   clear hc6 hxe c0 c1 c2 c3 c4 d0 d1 d2 d3 d4 e3 e4
                   rcases hE with ⟨h1, rfl⟩ | ⟨m, a2, h1, rfl, hNm⟩
                   · simp only at h1
                     subst h1
                     simp only
                     by_cases hx0 : x = 0
                     · subst hx0
                       have HSk : Hid (HolI w3 w6 v5 r (rs.drop (i + 1)) (k + 1) (ys ++ [⟨a'.AL, a'.cl, q.left⟩])) := by
                         have h2 := HH.out.skip HQi.out (by rw [HXn.out]) (by rw [HXn.out]) (x := ⟨a'.AL, a'.cl, q.left⟩) rfl HXe.out HAl.out HG5.out HO5.out
                         exact ⟨h2.own.to HC6.out, h2.is, fun y hy => (h2.each y hy).imp id (fun h => h.calm HC6.out)⟩
                       have HSk2 : Hid (HolI w3 (w6.alloc (.cells #[.bool false, .slice none 0 0, .bool false, .slice none 0 0, .bool false] 38)) v5 r (rs.drop (i + 1)) (k + 1) (ys ++ [⟨a'.AL, a'.cl, q.left⟩])) := ⟨HSk.out.own.to ((Calm.refl _).alloc _), HSk.out.is, fun y hy => (HSk.out.each y hy).imp id (fun h => h.calm ((Calm.refl _).alloc _))⟩
                       go_wp2_with fail
                       go_roundw
                       case rel => exact ⟨k + 1, ys ++ [⟨a'.AL, a'.cl, q.left⟩], by omega, by go_num, HSk2⟩
                       case measure => simp [intOf]; omega
                     · have hx1 : (x == 0) = false := by rw [beq_eq_false_iff_ne]; exact hx0
                       have HSt : Hid (entE rs = ([], 61)) := by
                         show _ = _
                         unfold entE
                         rw [HX.out, if_neg (by decide), HI3.out.stop HRi.out HNN.out.2.2.2.2 (HH.out.stop HQi.out (by rw [HXn.out]; exact hx0))]
                       have HCz : Hid (Calm w (w6.alloc (.cells #[.bool false, .slice none 0 0, .bool false, .slice none 0 0, .bool false] 38))) := (HR3.out.trans (HO5.out.calm.trans HC6.out)).alloc _
                       go_wp2_with fail
                       go_ret2
                       exact ⟨.inl (by rw [HSt.out]; exact ⟨rfl, by decide, rfl⟩), HCz.out⟩
                   · have hno : no = some m := congrArg Prod.fst h1
                     have hx0 : x = 0 := congrArg Prod.snd h1
                     subst hno hx0
                     obtain ⟨ml, hml⟩ : ∃ ml, m.left.parts.length = ml := ⟨_, rfl⟩
                     obtain ⟨mr, hmr⟩ : ∃ mr, m.right.parts.length = mr := ⟨_, rfl⟩
                     obtain ⟨mlr, hmlr⟩ : ∃ mlr, m.left.rest = mlr := ⟨_, rfl⟩
                     obtain ⟨mrr, hmrr⟩ : ∃ mrr, m.right.rest = mrr := ⟨_, rfl⟩
                     obtain ⟨mx, hmx⟩ : ∃ mx, m.excl = mx := ⟨_, rfl⟩
                     have hgo : (narR r q.right).1 = some m := by rw [HXn.out]
                     have hz : SmallN w6 w3.heap.size ⟨a2.AL, a2.cl, m.left⟩ := ⟨hNm.l.mono HO5.out.calm.size, by
                       have := (patErr_form (narR_good hgo)).2.2
                       show m.left.parts.length ≤ 16384
                       omega, fun z hz => by
                       have := narR_each hgo (L := 60) (by decide) HSr.out.ls HSr.out.rs HQs.out.rs z hz
                       omega⟩
                     have HZ := Lib.hid hz
                     have HM := Lib.hid (And.intro hml hmlr)
                     unfold ruleV
                     rw [hml, hmr, hmlr, hmrr, hmx]
                     have hm2 := FiveB.new w6 (.bool mx) (.slice a2.AL ml a2.cl) (.bool mlr) (.slice a2.AR mr a2.cr) (.bool mrr) 38
                     have m1 := hm2.c1
                     have m2 := hm2.c2
                     have HAl2 : Hid (Calm w6 ((w6.alloc (.cells #[.bool mx, .slice a2.AL ml a2.cl, .bool mlr, .slice a2.AR mr a2.cr, .bool mrr] 38)).alloc (.cells #[.slice a2.AL ml a2.cl, .bool mlr] 36))) := ((Calm.refl _).alloc _).alloc _
                     clear hm2 hml hmr hmlr hmrr hmx hgo hz hNm h1
                     go_wp2_with (at_builtin; refine wpList_append_ps rfl (.tmp 58) (.tmp 61) rfl w3 _ (ys ++ [⟨a'.AL, a'.cl, q.left⟩]) [⟨a2.AL, a2.cl, m.left⟩] rfl (HO5.out.to (HC6.out.trans (((Calm.refl _).alloc _).alloc _))) _ 1 1 rfl rfl (read_newH ⟨a2.AL, a2.cl, m.left⟩ (by simp) HM.out.1 HM.out.2) (by rw [List.length_append, List.length_singleton]; omega) ?_; intro v7 w7 hown7 hg7)
                     go_roundw
                     case rel => exact ⟨k + 1, (ys ++ [⟨a'.AL, a'.cl, q.left⟩]) ++ [⟨a2.AL, a2.cl, m.left⟩], by omega, by go_num, Lib.hid (HH.out.hit HQi.out (by rw [HXn.out]) (n := m) (by rw [HXn.out]) (x := ⟨a'.AL, a'.cl, q.left⟩) rfl HXe.out HAl.out HG5.out HO5.out (z := ⟨a2.AL, a2.cl, m.left⟩) rfl (HC6.out.trans HAl2.out) (HZ.out.calm HAl2.out) hg7 hown7)⟩
                     case measure => simp [intOf]; omega)
              · obtain rfl : k = L := by omega
                have his : entHoles r (rs.drop (i + 1)) = some (ys.map (·.p)) := by
                  have := HH.out.is
                  rw [List.take_of_length_le (by rw [HLs.out]; exact Nat.le_refl _)] at this
                  exact this
                have hgd := entHoles_good (fun z hz => HG.out z (List.mem_of_mem_drop hz)) his
                have hyl := hgd.2
                rw [List.length_map, HLs.out] at hyl
                obtain ⟨HA, hac, rfl, hps⟩ := HH.out.reads (by omega)
                obtain ⟨N, hN⟩ : ∃ N, ys.length = N := ⟨_, rfl⟩
                obtain ⟨ps, hpe⟩ : ∃ ps, ys.map (·.p) = ps := ⟨_, rfl⟩
                have hpl : ps.length = N := by rw [← hpe, List.length_map, hN]
                rw [hpe] at his hgd hps
                rw [hN] at hyl ⊢
                have HIs := Lib.hid his
                have HPl := Lib.hid hpl
                have hrg : ruleErr r = 0 := HG.out r (List.mem_of_getElem? HRi.out)
                have KRd : Hid (Calls Tryz.prog 15 #[.agg #[.slice a.AL nl a.cl, .bool lr], .slice HA N hac] wq fun e w' => (∃ A3 c3 HA3 hc3, e = .returned (.agg #[.slice A3 nl c3, .bool lr, .slice HA3 (redL r.left ps).length hc3]) ∧ NewS w' wq.heap.size A3 c3 r.left.parts ∧ PatsN w' wq.heap.size HA3 hc3 (redL r.left ps)) ∧ Calm wq w') := by
                  have h2 := HRu3.out.calm HH.out.own.calm
                  have := reduce_c r.left ps a.AL a.cl HA N hac wq ⟨h2.left HSr.out.small, h2.lroom, h2.lcap⟩ hps hpl (ruleErr_twin.1 hrg).lp hgd.1
                  unfold RedEnd at this
                  rw [HNN.out.1, HNN.out.2.2.1] at this
                  exact this
                obtain ⟨hs, hhs⟩ : ∃ hs, redL r.left ps = hs := ⟨_, rfl⟩
                rw [hhs] at KRd
                have HHs := Lib.hid hhs
                obtain ⟨hn, hhn⟩ : ∃ hn, hs.length = hn := ⟨_, rfl⟩
                rw [hhn] at KRd
                have HHn := Lib.hid hhn
                have b8 := HB8.out.calm HH.out.own.calm
                have d1 := b8.c1
                have d2 := b8.c2
                have HHc : Hid (Calm w3 wq) := HH.out.own.calm
                clear b8 his hgd hps hN hpe hpl hrg hhs hhn
                go_wp2_with fail
                refine KRd.out.mono ?_
                rintro e w5 ⟨⟨A3, c3, HA3, hc3, rfl, hN5, hP5⟩, hc5⟩
                have hhl : hs.length ≤ 16384 := by
                  have h1 := redL_len r.left ps
                  rw [HHs.out, HPl.out] at h1
                  omega
                obtain ⟨w6, hw6⟩ : ∃ w6, w6 = w5.alloc (.cells #[.slice A3 nl c3, .bool lr, .slice HA3 hn hc3] 46) := ⟨_, rfl⟩
                have hc56 : Calm w5 w6 := by
                  show Below _ _ _
                  rw [hw6]
                  exact (Calm.refl _).alloc _
                obtain ⟨vz, hvz⟩ : ∃ vz, void r.left hs = vz := ⟨_, rfl⟩
                have KVd : Hid (Calls Tryz.prog 16 #[.agg #[.slice A3 nl c3, .bool lr], .slice HA3 hn hc3] w6 fun e w' => e = .returned (.bool vz) ∧ Calm w6 w') := by
                  have := void_c r.left hs A3 c3 HA3 hc3 w6 ((hN5.calm hc56).u.toR HSr.out.small.lp HSr.out.small.ls) ((hP5.reads hhl).calm hc56)
                  rw [HNN.out.1, HNN.out.2.2.1, HHn.out, hvz] at this
                  exact this
                have HVz := Lib.hid hvz
                have HN6 : Hid (NewS w6 wq.heap.size A3 c3 r.left.parts) := hN5.calm hc56
                have HP6 : Hid (PatsN w6 wq.heap.size HA3 hc3 hs) := hP5.calm hc56
                have HC6 : Hid (Calm wq w6) := hc5.trans hc56
                have HC5 : Hid (Calm wq w5) := hc5
                have g0 : w6.cell? ⟨w5.heap.size, 0, none⟩ = some (.slice A3 nl c3) := by rw [hw6]; simp [go_sem]
                have g1 : w6.cell? ⟨w5.heap.size, 1, none⟩ = some (.bool lr) := by rw [hw6]; simp [go_sem]
                have g2 : w6.cell? ⟨w5.heap.size, 2, none⟩ = some (.slice HA3 hn hc3) := by rw [hw6]; simp [go_sem]
                have hlt6 : w5.heap.size < w6.heap.size := by rw [hw6]; simp
                have HG6 := Lib.hid (And.intro g0 (And.intro g1 (And.intro g2 hlt6)))
                have HW6 := Lib.hid hw6
                clear hw6 hc56 hvz hN5 hP5 hc5 g0 g1 g2 hlt6
                go_wp2_with fail
                rw [← HW6.out]
                refine KVd.out.mono ?_
                rintro e w7 ⟨rfl, hc7⟩
                have HC7 : Hid (Calm wq w7) := HC6.out.trans hc7
                have HHl := Lib.hid hhl
                have hHo : Hid (entHoles r (rs.drop (i + 1)) = some ps) := HIs
                cases vz with
                | true =>
                  have h0 : leastLen r.left (redL r.left ps) = 0 := by
                    rw [HHs.out]
                    have := HVz.out
                    unfold void at this
                    simpa using this
                  have HRel : Hid (EntI w2 w7 u6 rs (i + 1) zs) := HI3.out.void HRi.out HNN.out.2.2.2.2 hHo.out h0 (HHc.out.trans HC7.out)
                  clear hc7 h0
                  go_wp2_with fail
                  go_roundw
                  case rel => exact ⟨i + 1, zs, by omega, by go_num, HRel⟩
                  case measure => simp [intOf]; omega
                | false =>
                  have h0 : leastLen r.left (redL r.left ps) ≠ 0 := by
                    rw [HHs.out]
                    have := HVz.out
                    unfold void at this
                    simpa using this
                  have HL0 := Lib.hid h0
                  have HB8w : Hid (FiveB w7 B8 (.bool false) (.slice a.AL nl a.cl) (.bool lr) (.slice a.AR nr a.cr) (.bool rr)) := HB8.out.calm (HHc.out.trans HC7.out)
                  have KCp : Hid (∀ W, Calm w7 W → Calls Tryz.prog 17 #[.agg #[.slice a.AR nr a.cr, .bool rr]] W fun e w' => (∃ A c, e = .returned (.agg #[.slice A nr c, .bool rr]) ∧ NewS w' W.heap.size A c r.right.parts) ∧ Calm W w') := fun W hW => by
                    have h2 := HRu3.out.calm (HHc.out.trans (HC7.out.trans hW))
                    have := copy_c r.right a.AR a.cr W h2.rr
                    unfold CopyEnd at this
                    rw [HNN.out.2.1, HNN.out.2.2.2.1] at this
                    exact this
                  have g0 := Calm.at_ hc7 HG6.out.1 HG6.out.2.2.2
                  have g1 := Calm.at_ hc7 HG6.out.2.1 HG6.out.2.2.2
                  have g2 := Calm.at_ hc7 HG6.out.2.2.1 HG6.out.2.2.2
                  have b3 := HB8w.out.c3
                  have b4 := HB8w.out.c4
                  have hlt7 : w5.heap.size < w7.heap.size := Nat.lt_of_lt_of_le HG6.out.2.2.2 hc7.size
                  have hlt8 : B8 < w7.heap.size := HB8w.out.lt
                  have HC67 : Hid (Calm w6 w7) := hc7
                  clear hc7 h0
                  go_wp2_with fail
                  have HEp : Hid ((entOf r ps).hs = hs) := HHs.out
                  have HEh : Hid ((entOf r ps).hs.length = hn) := by
                    show _ = _
                    rw [HEp.out]
                    exact HHn.out
                  have hszq : w2.heap.size ≤ wq.heap.size := (HI3.out.own.calm.trans HHc.out).size
                  have HK : Hid (∀ W : World, Calm w7 W → W.cell? ⟨w5.heap.size, 0, none⟩ = some (.slice A3 nl c3) ∧ W.cell? ⟨w5.heap.size, 1, none⟩ = some (.bool lr) ∧ W.cell? ⟨w5.heap.size, 2, none⟩ = some (.slice HA3 hn hc3) ∧ W.cell? ⟨B8, 3, none⟩ = some (.slice a.AR nr a.cr) ∧ W.cell? ⟨B8, 4, none⟩ = some (.bool rr)) := fun W hW =>
                    ⟨Calm.at_ hW g0 hlt7, Calm.at_ hW g1 hlt7, Calm.at_ hW g2 hlt7, Calm.at_ hW b3 hlt8, Calm.at_ hW b4 hlt8⟩
                  have HSF : Hid (∀ W W' : World, Calm w7 W → W.grownBy W' u6.ownBlock → W'.cell? ⟨w5.heap.size, 0, none⟩ = some (.slice A3 nl c3) ∧ W'.cell? ⟨w5.heap.size, 1, none⟩ = some (.bool lr) ∧ W'.cell? ⟨w5.heap.size, 2, none⟩ = some (.slice HA3 hn hc3) ∧ W'.cell? ⟨B8, 3, none⟩ = some (.slice a.AR nr a.cr) ∧ W'.cell? ⟨B8, 4, none⟩ = some (.bool rr)) := fun W W' hW hg => by
                    have hh1 := hg.block w5.heap.size (Nat.lt_of_lt_of_le hlt7 hW.size) (fun e => by
                      have h1 := HI3.out.own.blk_lt e
                      have h2 := HHc.out.size
                      have h3 := HC5.out.size
                      omega)
                    have hh2 := hg.block B8 (Nat.lt_of_lt_of_le hlt8 hW.size) HBne.out
                    obtain ⟨k0, k1, k2, k3, k4⟩ := HK.out W hW
                    exact ⟨(World.cell?_of_block (a := ⟨w5.heap.size, 0, none⟩) hh1).trans k0, (World.cell?_of_block (a := ⟨w5.heap.size, 1, none⟩) hh1).trans k1, (World.cell?_of_block (a := ⟨w5.heap.size, 2, none⟩) hh1).trans k2, (World.cell?_of_block (a := ⟨B8, 3, none⟩) hh2).trans k3, (World.cell?_of_block (a := ⟨B8, 4, none⟩) hh2).trans k4⟩
                  go_region_held3 (fun W => W.cell? ⟨w5.heap.size, 0, none⟩ = some (.slice A3 nl c3) ∧ W.cell? ⟨w5.heap.size, 1, none⟩ = some (.bool lr) ∧ W.cell? ⟨w5.heap.size, 2, none⟩ = some (.slice HA3 hn hc3) ∧ W.cell? ⟨B8, 3, none⟩ = some (.slice a.AR nr a.cr) ∧ W.cell? ⟨B8, 4, none⟩ = some (.bool rr))
                    (first
                      | exact HK.out _ (Calm.refl _)
                      | exact HK.out _ (Below.drew (Calm.refl _))
                      | exact HK.out _ hc78
                      | exact HK.out _ (Below.drew hc78)
                      | exact HK.out _ (hc78.alloc _)
                      | exact HK.out _ (Below.drew (hc78.alloc _))
                      | exact HSF.out _ _ (hc78.alloc _) hg9
                      | exact HSF.out _ _ (Below.drew (hc78.alloc _)) hg9
                      | exact HSF.out _ _ ((Below.drew hc78).alloc _) hg9
                      | go_keep)
                    (first
                    | (go_at_call 17; first
                        | (refine (KCp.out _ (Calm.refl _)).mono ?_; rintro e w8 ⟨⟨A9, c9, rfl, hN9⟩, hc8⟩; have hc78 : Calm w7 w8 := hc8; have HK8 := HK.out w8 hc78)
                        | (refine (KCp.out _ (Below.drew (Calm.refl _))).mono ?_; rintro e w8 ⟨⟨A9, c9, rfl, hN9⟩, hc8⟩; have hc78 : Calm w7 w8 := (Below.drew (Calm.refl _)).trans hc8; have HK8 := HK.out w8 hc78))
                    | (refine step_append_xs (enc := encE) (K := 5) (T := 51) Tryz.underlying25 info_ent rfl (by decide) (by decide) encE_len encE_one rfl (.tmp 73) (.tmp 82) rfl w2 u6 zs [⟨A3, c3, A9, c9, HA3, hc3, entOf r ps⟩] (by simp [Act.eval, Act.put]) (HI3.out.own.to ((HHc.out.trans HC7.out).trans (hc78.trans (by first | exact (Calm.refl _).alloc _ | exact (Below.drew (Calm.refl _)).alloc _ | exact Below.drew ((Calm.refl _).alloc _) | exact (Below.drew (Below.drew (Calm.refl _))).alloc _ | exact (Below.drew ((Calm.refl _).alloc _)))))) _ 1 1 rfl rfl (read_newE ⟨A3, c3, A9, c9, HA3, hc3, entOf r ps⟩ rfl HNN.out.1 HNN.out.2.2.1 HNN.out.2.1 HNN.out.2.2.2.1 HEh.out) (by have := HI3.out.few; omega) ?_; intro v9 w9 hown9 hg9))
                  all_goals
                    have HRel : Hid (EntI w2 w9 v9 rs (i + 1) (zs ++ [⟨A3, c3, A9, c9, HA3, hc3, entOf r ps⟩])) :=
                      HI3.out.add HRi.out HNN.out.2.2.2.2 hHo.out HL0.out rfl ((HHc.out.trans HC7.out).trans (hc78.trans (by first | exact (Calm.refl _).alloc _ | exact (Below.drew (Calm.refl _)).alloc _ | exact Below.drew ((Calm.refl _).alloc _) | exact (Below.drew (Below.drew (Calm.refl _))).alloc _ | exact (Below.drew ((Calm.refl _).alloc _))))) ⟨⟨((HN6.out.calm (HC67.out.trans (hc78.trans (by first | exact (Calm.refl _).alloc _ | exact (Below.drew (Calm.refl _)).alloc _ | exact Below.drew ((Calm.refl _).alloc _) | exact (Below.drew (Below.drew (Calm.refl _))).alloc _ | exact (Below.drew ((Calm.refl _).alloc _)))))).mono hszq), HSr.out.small.lp, HSr.out.small.ls⟩, ⟨((hN9.calm (by first | exact (Calm.refl _).alloc _ | exact (Below.drew (Calm.refl _)).alloc _ | exact Below.drew ((Calm.refl _).alloc _) | exact (Below.drew (Below.drew (Calm.refl _))).alloc _ | exact (Below.drew ((Calm.refl _).alloc _)))).mono (Nat.le_trans hszq HC7.out.size)), HSr.out.small.rp, HSr.out.small.rs⟩, HEp.out ▸ ((HP6.out.calm (HC67.out.trans (hc78.trans (by first | exact (Calm.refl _).alloc _ | exact (Below.drew (Calm.refl _)).alloc _ | exact Below.drew ((Calm.refl _).alloc _) | exact (Below.drew (Below.drew (Calm.refl _))).alloc _ | exact (Below.drew ((Calm.refl _).alloc _)))))).mono hszq), by rw [HEp.out]; exact HHl.out⟩ hg9 hown9
                    go_wp2_with fail
                    go_roundw
                    case rel => exact ⟨i + 1, zs ++ [⟨A3, c3, A9, c9, HA3, hc3, entOf r ps⟩], by omega, by go_num, HRel⟩
                    case measure => simp [intOf]; omega
      · obtain rfl : i = n := by omega
        have hI := HI.out
        rw [← HN.out] at hI
        obtain ⟨hes, A, c, rfl, h1, h2, h3⟩ := hI.reads
        have HE : Hid (entE rs = (zs.map (·.e), 0)) := by
          show _ = _
          unfold entE
          rw [HX.out, if_neg (by decide), hes]
        obtain ⟨Z, hZ⟩ : ∃ Z, zs.length = Z := ⟨_, rfl⟩
        have HZ := Lib.hid hZ
        have HR9 := Lib.hid (And.intro h3 (And.intro h1 h2))
        have HC9 : Hid (Calm w2 wr) := HI.out.own.calm
        rw [hZ]
        clear hI hes h1 h2 h3 hZ HI
        go_wp2_with fail
        go_ret2
        exact ⟨.inr ⟨by rw [HE.out], A, c, by rw [HE.out]; simp only [List.length_map]; rw [HZ.out]; rfl, by rw [HE.out]; exact HR9.out.1, by rw [HE.out]; simp only [List.length_map]; exact HR9.out.2.1, HR9.out.2.2⟩, HC2.out.trans HC9.out⟩
  · have HE : Hid (entE rs = ([], x)) := by
      show _ = _
      unfold entE
      rw [HX.out, if_pos hx0]
    have hx1 : (x == 0) = false := by rw [beq_eq_false_iff_ne]; exact hx0
    have HX0 := Lib.hid hx0
    go_wp2_with fail
    go_ret2
    exact ⟨.inl (by rw [HE.out]; exact ⟨rfl, HX0.out, rfl⟩), HC2.out⟩
end Go.Proofs.YtglnkpgfdjnhnaaGreatDoor
