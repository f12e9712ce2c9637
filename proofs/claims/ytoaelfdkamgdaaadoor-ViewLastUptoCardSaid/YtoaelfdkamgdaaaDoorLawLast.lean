/- The law ViewLast: its walk (written by program: gen_last.py). -/
import Derived.Test.YtoaelfdkamgdaaaDoorLawFirst
set_option linter.unusedVariables false
set_option linter.unusedSimpArgs false
namespace Go.Proofs.YtoaelfdkamgdaaaDoor
open Go Go.RowKit Sy

set_option maxRecDepth 100000 in
set_option maxHeartbeats 8000000 in
theorem viewLast_c (v : List Rule) (r : Rule) (a : Pl) (s : Str) (A : Option Addr) (n c : Nat) (w : World) (hv : RulesU w A v) (hn : v.length = n) (hnc : v.length ≤ c) (hc : c ≤ 1048576) (hr : RuleU w a r) (hs : s.length ≤ 1048576) (hM : MaxL w) :
    Calls Tryd.prog 3 #[.slice A n c, ruleV a r, .string (bs s)] w fun e w' => e = .returned (.bool true) ∧ Calm w w' := by
  obtain ⟨l, hl, hlu, hlc⟩ := hv.cells
  have hln : l.length = n := by rw [← hn, ← hl, List.length_map]
  have hn6 : n ≤ 1048576 := by omega
  obtain ⟨w1, hw1⟩ : ∃ w1, w1 = w.alloc (.cells #[.bool r.excl, .slice a.AL r.left.parts.length a.cl, .bool r.left.rest, .slice a.AR r.right.parts.length a.cr, .bool r.right.rest] 27) := ⟨_, rfl⟩
  have hc1 : Calm w w1 := by rw [hw1]; exact (Calm.refl w).alloc _
  have hz1 : w1.heap.size = w.heap.size + 1 := by rw [hw1]; simp
  have hbox : BoxR w1 w.heap.size a r r.left.parts.length r.right.parts.length r.left.rest r.right.rest r.excl := by rw [hw1]; exact ⟨by simp, by simp, by simp, by simp, by simp, by simp⟩
  obtain ⟨y, hy⟩ : ∃ y, smallW (v ++ [r]) = y := ⟨_, rfl⟩
  obtain ⟨x, hx⟩ : ∃ x, viewErr (v ++ [r]) = x := ⟨_, rfl⟩
  obtain ⟨ix, hix⟩ : ∃ ix, viewIx (v ++ [r]) = ix := ⟨_, rfl⟩
  have hsz := bs_size s
  have hcells : ∀ W, Calm w W → (l ≠ [] → ∃ b o, A = some ⟨b, o, none⟩ ∧ ∀ j u, (cells5 l)[j]? = some u → W.cell? ⟨b, o + j, none⟩ = some u) := fun W hW hne => by
    obtain ⟨b, o, hA, hk⟩ := hlc hne
    obtain ⟨b', o', hA', hb, _⟩ := hv.at_ (by rw [hn, ← hln]; exact List.length_pos_iff.2 hne)
    rw [hA] at hA'
    obtain ⟨rfl, rfl⟩ : b = b' ∧ o = o' := by simpa using hA'
    exact ⟨b, o, hA, fun j u hj => (hW.cell (p := ⟨b, o + j, none⟩) hb).trans (hk j u hj)⟩
  have HCells := Lib.hid hcells
  have KRow : Hid (∀ W0 W v9, Calm w1 W0 → OwnR W0 W v9 (l ++ [(a, r)]) → ∃ A9 c9, v9 = .slice A9 (n + 1) c9 ∧ RulesU W A9 (v ++ [r]) ∧ Calm w1 W) := fun W0 W v9 h0 h => by
    obtain ⟨A9, c9, h1, h2⟩ := h.rules (by rw [List.length_append]; simp; omega) (fun z hz => by
      rcases List.mem_append.1 hz with hz | hz
      · exact (hlu z hz).calm (hc1.trans (h0.trans h.calm))
      · rw [List.mem_singleton.1 hz]
        exact hr.calm (hc1.trans (h0.trans h.calm)))
    rw [List.length_append, hln] at h1
    rw [List.map_append, hl] at h2
    exact ⟨A9, c9, h1, h2, h0.trans h.calm⟩
  have KA : Hid (∀ W, Calm w W → Calls Tryd.prog 12 #[] W fun e w' => e = .returned (.bool true) ∧ Calm W w') := fun W hW => awakev_c W (hM.calm hW)
  have hn1 : (v ++ [r]).length = n + 1 := by rw [List.length_append, hn]; rfl
  have HW := Lib.hid hw1
  have HC := Lib.hid hc1
  have HB := Lib.hid hbox
  have HX := Lib.hid (And.intro hx (And.intro hix (And.intro hy hn1)))
  have HN := Lib.hid (And.intro hn hln)
  have HV := Lib.hid hv
  have HR := Lib.hid hr
  have HM := Lib.hid hM
  have HZ := Lib.hid hz1
  have g0 := hbox.c0
  have g1 := hbox.c1
  have g2 := hbox.c2
  have g3 := hbox.c3
  have g4 := hbox.c4
  have gz := hbox.lt
  clear hw1 hc1 hbox hcells hlc hx hix hy hn1 hv hn hnc hr hM hz1 hl hlu hln
  unfold ruleV
  go_enter Tryd.func3, Tryd.ntmps3
  go_wp2
  rw [← HW.out]
  go_region_law ((first
    | (refine step_app_rules rfl (.const (.slice none 0 0)) (.tmp 16) rfl _ (.slice none 0 0) [] rfl (OwnR.nil (Calm.refl _)) A n c (by simp [Act.eval, Act.put]) l HN.out.2 (HCells.out _ (HC.out.trans (by first | exact Calm.refl _ | exact (Calm.refl _).drewN _ | exact (Calm.refl _).alloc _ | exact ((Calm.refl _).drewN _).alloc _ | exact ((Calm.refl _).alloc _).drewN _))) (by simp; omega) ?_; intro v5 w5 hown5; have q0 := (HB.out.calm (Calm.trans (by first | exact Calm.refl _ | exact (Calm.refl _).drewN _ | exact (Calm.refl _).alloc _ | exact ((Calm.refl _).drewN _).alloc _ | exact ((Calm.refl _).alloc _).drewN _) hown5.calm)).c0; have q1 := (HB.out.calm (Calm.trans (by first | exact Calm.refl _ | exact (Calm.refl _).drewN _ | exact (Calm.refl _).alloc _ | exact ((Calm.refl _).drewN _).alloc _ | exact ((Calm.refl _).alloc _).drewN _) hown5.calm)).c1; have q2 := (HB.out.calm (Calm.trans (by first | exact Calm.refl _ | exact (Calm.refl _).drewN _ | exact (Calm.refl _).alloc _ | exact ((Calm.refl _).drewN _).alloc _ | exact ((Calm.refl _).alloc _).drewN _) hown5.calm)).c2; have q3 := (HB.out.calm (Calm.trans (by first | exact Calm.refl _ | exact (Calm.refl _).drewN _ | exact (Calm.refl _).alloc _ | exact ((Calm.refl _).drewN _).alloc _ | exact ((Calm.refl _).alloc _).drewN _) hown5.calm)).c3; have q4 := (HB.out.calm (Calm.trans (by first | exact Calm.refl _ | exact (Calm.refl _).drewN _ | exact (Calm.refl _).alloc _ | exact ((Calm.refl _).drewN _).alloc _ | exact ((Calm.refl _).alloc _).drewN _) hown5.calm)).c4)
    | (refine step_app_rules rfl (.tmp 17) (.tmp 19) rfl _ v5 l (by simp [Act.eval, Act.put]) (hown5.to (by first | exact Calm.refl _ | exact (Calm.refl _).drewN _ | exact (Calm.refl _).alloc _ | exact ((Calm.refl _).drewN _).alloc _ | exact ((Calm.refl _).alloc _).drewN _)) (some ⟨_, 0, none⟩) 1 1 rfl [(a, r)] rfl (by first | (refine one_kept (a, r) ?_ (Calm.trans (Below.drew (Calm.refl _)) hown5.calm); rfl) | (refine one_kept (a, r) ?_ (Calm.refl _); rfl) | (refine one_kept (a, r) ?_ ((Calm.refl _).drewN _); rfl) | (refine one_kept (a, r) ?_ hown5.calm; rfl) | (refine one_kept (a, r) ?_ (hown5.calm.trans ((Calm.refl _).drewN _)); rfl)) (by have := HN.out.2; omega) ?_; intro v6 w6 hown6; obtain ⟨A9, c9, hv9, hru9, hcal9⟩ := KRow.out _ _ _ (by first | exact Calm.refl _ | exact (Calm.refl _).drewN _ | exact (Calm.refl _).alloc _ | exact ((Calm.refl _).drewN _).alloc _ | exact ((Calm.refl _).alloc _).drewN _) hown6; subst hv9)))
  all_goals
    simp only [List.getElem_toArray, List.getElem_cons_succ, List.getElem_cons_zero, Act.put, List.setIfInBounds_toArray, List.set_cons_succ, List.set_cons_zero]
    have HU := Lib.hid hru9
    have HCl := Lib.hid hcal9
    have hk := vcheck_v (v ++ [r]) ix x A9 (n + 1) c9 w6 hru9 HX.out.2.2.2 HX.out.2.1 HX.out.1
    have KS : Hid (∀ W, Calm w6 W → Calls Tryd.prog 11 #[.slice A9 (n + 1) c9] W fun e w' => e = .returned (.bool y) ∧ Calm W w') := fun W hW => smallv_c (v ++ [r]) y A9 (n + 1) c9 W (HU.out.calm hW) HX.out.2.2.2 HX.out.2.2.1
    clear hru9 hcal9 q0 q1 q2 q3 q4 hown5 hown6 g0 g1 g2 g3 g4
    cases y with
    | false =>
      go_wp2_with (first
        | (go_at_call 10; refine hk.mono ?_; rintro e w7 ⟨rfl, hc7⟩)
        | (go_at_call 11; refine (KS.out w7 hc7).mono ?_; rintro e w8 ⟨rfl, hc8⟩)
        | (go_at_call 12; refine (KA.out w8 (HC.out.trans (HCl.out.trans (hc7.trans hc8)))).mono ?_; rintro e w9 ⟨rfl, hc9⟩))
      go_ret
      exact ⟨rfl, HC.out.trans (HCl.out.trans (hc7.trans (hc8.trans hc9)))⟩
    | true =>
      by_cases h300 : 300 < s.length
      · go_wp2_with (first
          | (go_at_call 10; refine hk.mono ?_; rintro e w7 ⟨rfl, hc7⟩)
          | (go_at_call 11; refine (KS.out w7 hc7).mono ?_; rintro e w8 ⟨rfl, hc8⟩)
          | (go_at_call 12; refine (KA.out w8 (HC.out.trans (HCl.out.trans (hc7.trans hc8)))).mono ?_; rintro e w9 ⟨rfl, hc9⟩))
        go_ret
        exact ⟨rfl, HC.out.trans (HCl.out.trans (hc7.trans (hc8.trans hc9)))⟩
      · by_cases hx0 : x = 0
        · subst hx0
          obtain ⟨hsm, _⟩ := smallW_small HX.out.2.2.1
          have hsv : ∀ q ∈ v, SmallV q := fun q hq => hsm q (by simp [hq])
          have hsr : SmallV r := hsm r (by simp)
          have h3 : s.length ≤ 300 := by omega
          have KM : Hid (∀ W z, Calm w W → matchS r.left s = z → Calls Tryd.prog 14 #[.agg #[.slice a.AL r.left.parts.length a.cl, .bool r.left.rest], .string (bs s)] W fun e w' => e = .returned (.bool z) ∧ Calm W w') := fun W z hW hz => by
            have h := HR.out.calm hW
            exact matches_c r.left s z a.AL a.cl W (by omega) (h.left hsr.small) h.lroom h.lcap (HM.out.calm hW) hz
          have KMR : Hid (∀ W t z, t.length ≤ 5000 → Calm w W → matchS r.right t = z → Calls Tryd.prog 14 #[.agg #[.slice a.AR r.right.parts.length a.cr, .bool r.right.rest], .string (bs t)] W fun e w' => e = .returned (.bool z) ∧ Calm W w') := fun W t z ht hW hz => by
            have h := HR.out.calm hW
            exact matches_c r.right t z a.AR a.cr W (by omega) (h.right hsr.small) h.rroom h.rcap (HM.out.calm hW) hz
          have KF1G : ∀ u, vfV v s = u → ∀ W, Calm w W → Calls Tryd.prog 13 #[.slice A n c, .string (bs s)] W fun e w' => e = .returned u ∧ Calm W w' := fun u hu W hW => vfwd_v v s _ A n c W h3 (HM.out.calm hW) (HV.out.calm hW) hsv HN.out.1 hu
          have KF2G : ∀ u, vfV (v ++ [r]) s = u → ∀ W, Calm w6 W → Calls Tryd.prog 13 #[.slice A9 (n + 1) c9, .string (bs s)] W fun e w' => e = .returned u ∧ Calm W w' := fun u hu W hW => vfwd_v (v ++ [r]) s _ A9 (n + 1) c9 W h3 (HM.out.calm (HC.out.trans (HCl.out.trans hW))) (HU.out.calm hW) hsm HX.out.2.2.2 hu
          have hre := (viewErr_snoc HX.out.1).2
          rcases hm : matchS r.left s with _ | _
          · have hlo := last_other HX.out.1 hm
            have KM' := fun W hW => KM.out W false hW hm
            rcases hf : vfwd v s with _ | t
            · rw [hf] at hlo
              have KF1 := KF1G (.tuple #[.string ⟨#[]⟩, .bool false]) (vfV_no hf)
              have KF2 := KF2G (.tuple #[.string ⟨#[]⟩, .bool false]) (vfV_no hlo)
              clear KM KMR KF1G KF2G hre hlo hf hm hsm hsv hsr
              go_wp2_with (first
                | (go_at_call 10; refine hk.mono ?_; rintro e w7 ⟨rfl, hc7⟩)
                | (go_at_call 11; refine (KS.out w7 hc7).mono ?_; rintro e w8 ⟨rfl, hc8⟩)
              )
              have HC8 := Lib.hid (HC.out.trans (HCl.out.trans (hc7.trans hc8)))
              refine (KF1 w8 HC8.out).mono ?_
              rintro e w9 ⟨rfl, hc9⟩
              go_wp2_with fail
              refine (KF2 w9 (hc7.trans (hc8.trans hc9))).mono ?_
              rintro e w10 ⟨rfl, hc10⟩
              have HC10 := Lib.hid (HC8.out.trans (hc9.trans hc10))
              have HB10 := Lib.hid (HB.out.calm (HCl.out.trans (hc7.trans (hc8.trans (hc9.trans hc10)))))
              have d0 := HB10.out.c0
              have d1 := HB10.out.c1
              have d2 := HB10.out.c2
              have d3 := HB10.out.c3
              have d4 := HB10.out.c4
              go_wp2_with (first
                | (go_at_call 14; refine (KM' w10 HC10.out).mono ?_; rintro e w11 ⟨rfl, hc11⟩)
                | (go_at_call 12; refine (KA.out w11 (HC10.out.trans hc11)).mono ?_; rintro e w12 ⟨rfl, hc12⟩))
              go_ret
              exact ⟨rfl, HC10.out.trans (hc11.trans hc12)⟩
            · obtain ⟨_, k, q, _, hq, _, hfq, _⟩ := vfwd_some.1 hf
              have ht5 := fwd_len (hsv q (List.mem_of_getElem? hq)) h3 hfq
              have KF1 := KF1G (.tuple #[.string (bs t), .bool true]) (vfV_some hf)
              rw [hf] at hlo
              simp only at hlo
              rcases hmr : matchS r.right t with _ | _
              · rw [hmr] at hlo
                have KF2 := KF2G (.tuple #[.string (bs t), .bool true]) (vfV_some (by simpa using hlo))
                have KMr := fun W hW => KMR.out W t false ht5 hW hmr
                clear KM KMR KF1G KF2G hre hlo hf hm hsm hsv hsr hq hfq hmr
                go_wp2_with (first
                  | (go_at_call 10; refine hk.mono ?_; rintro e w7 ⟨rfl, hc7⟩)
                  | (go_at_call 11; refine (KS.out w7 hc7).mono ?_; rintro e w8 ⟨rfl, hc8⟩)
                )
                have HC8 := Lib.hid (HC.out.trans (HCl.out.trans (hc7.trans hc8)))
                refine (KF1 w8 HC8.out).mono ?_
                rintro e w9 ⟨rfl, hc9⟩
                go_wp2_with fail
                refine (KF2 w9 (hc7.trans (hc8.trans hc9))).mono ?_
                rintro e w10 ⟨rfl, hc10⟩
                have HC10 := Lib.hid (HC8.out.trans (hc9.trans hc10))
                have HB10 := Lib.hid (HB.out.calm (HCl.out.trans (hc7.trans (hc8.trans (hc9.trans hc10)))))
                have d0 := HB10.out.c0
                have d1 := HB10.out.c1
                have d2 := HB10.out.c2
                have d3 := HB10.out.c3
                have d4 := HB10.out.c4
                go_wp2_with fail
                refine (KM' w10 HC10.out).mono ?_
                rintro e w11 ⟨rfl, hc11⟩
                have e3 := (HB10.out.calm hc11).c3
                have e4 := (HB10.out.calm hc11).c4
                go_wp2_with (first
                  | (go_at_call 14; refine (KMr w11 (HC10.out.trans hc11)).mono ?_; rintro e w12 ⟨rfl, hc12⟩)
                  | (go_at_call 12; refine (KA.out w12 (HC10.out.trans (hc11.trans hc12))).mono ?_; rintro e w13 ⟨rfl, hc13⟩))
                go_ret
                exact ⟨rfl, HC10.out.trans (hc11.trans (hc12.trans hc13))⟩
              · rw [hmr] at hlo
                have KF2 := KF2G (.tuple #[.string ⟨#[]⟩, .bool false]) (vfV_no (by simpa using hlo))
                have KMr := fun W hW => KMR.out W t true ht5 hW hmr
                clear KM KMR KF1G KF2G hre hlo hf hm hsm hsv hsr hq hfq hmr
                go_wp2_with (first
                  | (go_at_call 10; refine hk.mono ?_; rintro e w7 ⟨rfl, hc7⟩)
                  | (go_at_call 11; refine (KS.out w7 hc7).mono ?_; rintro e w8 ⟨rfl, hc8⟩)
                )
                have HC8 := Lib.hid (HC.out.trans (HCl.out.trans (hc7.trans hc8)))
                refine (KF1 w8 HC8.out).mono ?_
                rintro e w9 ⟨rfl, hc9⟩
                go_wp2_with fail
                refine (KF2 w9 (hc7.trans (hc8.trans hc9))).mono ?_
                rintro e w10 ⟨rfl, hc10⟩
                have HC10 := Lib.hid (HC8.out.trans (hc9.trans hc10))
                have HB10 := Lib.hid (HB.out.calm (HCl.out.trans (hc7.trans (hc8.trans (hc9.trans hc10)))))
                have d0 := HB10.out.c0
                have d1 := HB10.out.c1
                have d2 := HB10.out.c2
                have d3 := HB10.out.c3
                have d4 := HB10.out.c4
                go_wp2_with fail
                refine (KM' w10 HC10.out).mono ?_
                rintro e w11 ⟨rfl, hc11⟩
                have e3 := (HB10.out.calm hc11).c3
                have e4 := (HB10.out.calm hc11).c4
                go_wp2_with (first
                  | (go_at_call 14; refine (KMr w11 (HC10.out.trans hc11)).mono ?_; rintro e w12 ⟨rfl, hc12⟩)
                  | (go_at_call 12; refine (KA.out w12 (HC10.out.trans (hc11.trans hc12))).mono ?_; rintro e w13 ⟨rfl, hc13⟩))
                go_ret
                exact ⟨rfl, HC10.out.trans (hc11.trans (hc12.trans hc13))⟩
          · have hlm := last_match HX.out.1 hm
            obtain ⟨u, hu⟩ := (fwd_match hre).2 hm
            have KM' := fun W hW => KM.out W true hW hm
            obtain ⟨fs, hfs⟩ : ∃ fs, bs ((vfwd v s).getD []) = fs := ⟨_, rfl⟩
            obtain ⟨fb, hfb⟩ : ∃ fb, (vfwd v s).isSome = fb := ⟨_, rfl⟩
            have KF1 := KF1G (.tuple #[.string fs, .bool fb]) (by rw [vfV, hfs, hfb])
            obtain ⟨ex, hex⟩ : ∃ ex, r.excl = ex := ⟨_, rfl⟩
            have KR : Hid (∀ W, Calm w W → Calls Tryd.prog 15 #[.agg #[.bool r.excl, .slice a.AL r.left.parts.length a.cl, .bool r.left.rest, .slice a.AR r.right.parts.length a.cr, .bool r.right.rest], .string (bs s)] W fun e w' => e = .returned (.tuple #[.string (bs u), .bool true]) ∧ Calm W w') := fun W hW =>
              rfwd_v r a s _ W (HR.out.calm hW) hsr (by omega) (HM.out.calm hW) (fwdV_some hu)
            rw [hex, hu] at hlm
            rw [hex] at HB KR
            clear hex
            cases ex with
            | false =>
              have KF2 := KF2G (.tuple #[.string (bs u), .bool true]) (vfV_some (by simpa using hlm))
              clear KM KMR KF1G KF2G hre hlm hu hm hsm hsv hsr hfs hfb
              go_wp2_with (first
                | (go_at_call 10; refine hk.mono ?_; rintro e w7 ⟨rfl, hc7⟩)
                | (go_at_call 11; refine (KS.out w7 hc7).mono ?_; rintro e w8 ⟨rfl, hc8⟩)
              )
              have HC8 := Lib.hid (HC.out.trans (HCl.out.trans (hc7.trans hc8)))
              refine (KF1 w8 HC8.out).mono ?_
              rintro e w9 ⟨rfl, hc9⟩
              go_wp2_with fail
              refine (KF2 w9 (hc7.trans (hc8.trans hc9))).mono ?_
              rintro e w10 ⟨rfl, hc10⟩
              have HC10 := Lib.hid (HC8.out.trans (hc9.trans hc10))
              have HB10 := Lib.hid (HB.out.calm (HCl.out.trans (hc7.trans (hc8.trans (hc9.trans hc10)))))
              have d0 := HB10.out.c0
              have d1 := HB10.out.c1
              have d2 := HB10.out.c2
              have d3 := HB10.out.c3
              have d4 := HB10.out.c4
              go_wp2_with fail
              refine (KM' w10 HC10.out).mono ?_
              rintro e w11 ⟨rfl, hc11⟩
              have e0 := (HB10.out.calm hc11).c0
              have e1 := (HB10.out.calm hc11).c1
              have e2 := (HB10.out.calm hc11).c2
              have e3 := (HB10.out.calm hc11).c3
              have e4 := (HB10.out.calm hc11).c4
              clear d0 d1 d2 d3 d4
              go_wp2_with (go_at_call 15; refine (KR.out w11 (HC10.out.trans hc11)).mono ?_; rintro e w12 ⟨rfl, hc12⟩; have z0 := (HB10.out.calm (hc11.trans hc12)).c0)
              go_wp2_with (go_at_call 12; refine (KA.out w12 (HC10.out.trans (hc11.trans hc12))).mono ?_; rintro e w13 ⟨rfl, hc13⟩)
              go_ret
              exact ⟨rfl, HC10.out.trans (hc11.trans (hc12.trans hc13))⟩
            | true =>
              have KF2 := KF2G (.tuple #[.string ⟨#[]⟩, .bool false]) (vfV_no (by simpa using hlm))
              clear KM KMR KF1G KF2G hre hlm hu hm hsm hsv hsr hfs hfb
              go_wp2_with (first
                | (go_at_call 10; refine hk.mono ?_; rintro e w7 ⟨rfl, hc7⟩)
                | (go_at_call 11; refine (KS.out w7 hc7).mono ?_; rintro e w8 ⟨rfl, hc8⟩)
              )
              have HC8 := Lib.hid (HC.out.trans (HCl.out.trans (hc7.trans hc8)))
              refine (KF1 w8 HC8.out).mono ?_
              rintro e w9 ⟨rfl, hc9⟩
              go_wp2_with fail
              refine (KF2 w9 (hc7.trans (hc8.trans hc9))).mono ?_
              rintro e w10 ⟨rfl, hc10⟩
              have HC10 := Lib.hid (HC8.out.trans (hc9.trans hc10))
              have HB10 := Lib.hid (HB.out.calm (HCl.out.trans (hc7.trans (hc8.trans (hc9.trans hc10)))))
              have d0 := HB10.out.c0
              have d1 := HB10.out.c1
              have d2 := HB10.out.c2
              have d3 := HB10.out.c3
              have d4 := HB10.out.c4
              go_wp2_with fail
              refine (KM' w10 HC10.out).mono ?_
              rintro e w11 ⟨rfl, hc11⟩
              have e0 := (HB10.out.calm hc11).c0
              have e1 := (HB10.out.calm hc11).c1
              have e2 := (HB10.out.calm hc11).c2
              have e3 := (HB10.out.calm hc11).c3
              have e4 := (HB10.out.calm hc11).c4
              clear d0 d1 d2 d3 d4
              go_wp2_with (go_at_call 15; refine (KR.out w11 (HC10.out.trans hc11)).mono ?_; rintro e w12 ⟨rfl, hc12⟩; have z0 := (HB10.out.calm (hc11.trans hc12)).c0)
              go_wp2_with (go_at_call 12; refine (KA.out w12 (HC10.out.trans (hc11.trans hc12))).mono ?_; rintro e w13 ⟨rfl, hc13⟩)
              go_ret
              exact ⟨rfl, HC10.out.trans (hc11.trans (hc12.trans hc13))⟩
        · have hvb : (x != 0) = true := by simpa using hx0
          go_wp2_with (first
            | (go_at_call 10; refine hk.mono ?_; rintro e w7 ⟨rfl, hc7⟩)
            | (go_at_call 11; refine (KS.out w7 hc7).mono ?_; rintro e w8 ⟨rfl, hc8⟩)
            | (go_at_call 12; refine (KA.out w8 (HC.out.trans (HCl.out.trans (hc7.trans hc8)))).mono ?_; rintro e w9 ⟨rfl, hc9⟩))
          go_ret
          exact ⟨rfl, HC.out.trans (HCl.out.trans (hc7.trans (hc8.trans hc9)))⟩
end Go.Proofs.YtoaelfdkamgdaaaDoor
