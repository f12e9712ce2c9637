/- The law ViewFirst: its walk. -/
import Derived.Test.YtoaelfdkamgdaaaDoorLawDec
import Derived.Test.YtoaelfdkamgdaaaDoorRuleOwn
set_option linter.unusedVariables false
set_option linter.unusedSimpArgs false
namespace Go.Proofs.YtoaelfdkamgdaaaDoor
open Go Go.RowKit Sy

theorem vfV_eq {u v : List Rule} {s : Str} (h : vfwd u s = vfwd v s) : vfV u s = vfV v s := by rw [vfV, h, vfV]

set_option maxRecDepth 100000 in
set_option maxHeartbeats 8000000 in
theorem viewFirst_c (v : List Rule) (r : Rule) (a : Pl) (s : Str) (A : Option Addr) (n c : Nat) (w : World) (hv : RulesU w A v) (hn : v.length = n) (hnc : v.length ≤ c) (hc : c ≤ 1048576) (hr : RuleU w a r) (hs : s.length ≤ 1048576) (hM : MaxL w) :
    Calls Tryd.prog 4 #[.slice A n c, ruleV a r, .string (bs s)] w fun e w' => e = .returned (.bool true) ∧ Calm w w' := by
  obtain ⟨l, hl, hlu, hlc⟩ := hv.cells
  have hln : l.length = n := by rw [← hn, ← hl, List.length_map]
  have hn6 : n ≤ 1048576 := by omega
  obtain ⟨w1, hw1⟩ : ∃ w1, w1 = w.alloc (.cells #[.bool r.excl, .slice a.AL r.left.parts.length a.cl, .bool r.left.rest, .slice a.AR r.right.parts.length a.cr, .bool r.right.rest] 27) := ⟨_, rfl⟩
  have hc1 : Calm w w1 := by rw [hw1]; exact (Calm.refl w).alloc _
  have hz1 : w1.heap.size = w.heap.size + 1 := by rw [hw1]; simp
  have hbox : BoxR w1 w.heap.size a r r.left.parts.length r.right.parts.length r.left.rest r.right.rest r.excl := by rw [hw1]; exact ⟨by simp, by simp, by simp, by simp, by simp, by simp⟩
  obtain ⟨y, hy⟩ : ∃ y, smallW (r :: v) = y := ⟨_, rfl⟩
  obtain ⟨x, hx⟩ : ∃ x, viewErr (r :: v) = x := ⟨_, rfl⟩
  obtain ⟨ix, hix⟩ : ∃ ix, viewIx (r :: v) = ix := ⟨_, rfl⟩
  have hsz := bs_size s
  have hcells : ∀ W, Calm w W → (l ≠ [] → ∃ b o, A = some ⟨b, o, none⟩ ∧ ∀ j u, (cells5 l)[j]? = some u → W.cell? ⟨b, o + j, none⟩ = some u) := fun W hW hne => by
    obtain ⟨b, o, hA, hk⟩ := hlc hne
    obtain ⟨b', o', hA', hb, _⟩ := hv.at_ (by rw [hn, ← hln]; exact List.length_pos_iff.2 hne)
    rw [hA] at hA'
    obtain ⟨rfl, rfl⟩ : b = b' ∧ o = o' := by simpa using hA'
    exact ⟨b, o, hA, fun j u hj => (hW.cell (p := ⟨b, o + j, none⟩) hb).trans (hk j u hj)⟩
  have HCells := Lib.hid hcells
  have KRow : Hid (∀ W v9, OwnR w1 W v9 ((a, r) :: l) → ∃ A9 c9, v9 = .slice A9 (n + 1) c9 ∧ RulesU W A9 (r :: v)) := fun W v9 h => by
    obtain ⟨A9, c9, h1, h2⟩ := h.rules (by rw [List.length_cons]; omega) (fun z hz => by
      rcases List.mem_cons.1 hz with rfl | hz
      · exact hr.calm (hc1.trans h.calm)
      · exact (hlu z hz).calm (hc1.trans h.calm))
    rw [List.length_cons, hln] at h1
    rw [List.map_cons, hl] at h2
    exact ⟨A9, c9, h1, h2⟩
  have KA : Hid (∀ W, Calm w W → Calls Tryd.prog 12 #[] W fun e w' => e = .returned (.bool true) ∧ Calm W w') := fun W hW => awakev_c W (hM.calm hW)
  have hn1 : (r :: v).length = n + 1 := by rw [List.length_cons, hn]
  have HW := Lib.hid hw1
  have HC := Lib.hid hc1
  have HB := Lib.hid hbox
  have HX := Lib.hid (And.intro hx (And.intro hix (And.intro hy hn1)))
  have HN := Lib.hid (And.intro hn hln)
  have HV := Lib.hid hv
  have HR := Lib.hid hr
  have HM := Lib.hid hM
  have HZ := Lib.hid hz1
  have H1 : Hid (OwnR w1 (w1.alloc (.cells #[.bool r.excl, .slice a.AL r.left.parts.length a.cl, .bool r.left.rest, .slice a.AR r.right.parts.length a.cr, .bool r.right.rest] 27)) (.slice (some ⟨w.heap.size + 1, 0, none⟩) 1 1) [(a, r)]) := OwnR.one (a, r) hz1
  clear hw1 hc1 hbox hcells hlc hx hix hy hn1 hv hn hnc hr hM hz1 hl hlu hln
  unfold ruleV
  go_enter Tryd.func4, Tryd.ntmps4
  go_wp2_with (at_builtin; rw [← HW.out]; refine wpList_append_rules rfl (.tmp 17) (.tmp 18) rfl w1 (.slice (some ⟨w.heap.size + 1, 0, none⟩) 1 1) [(a, r)] rfl H1.out A n c rfl l HN.out.2 (HCells.out _ (HC.out.trans H1.out.calm)) (by simp; omega) ?_; intro v5 w5 hown5; obtain ⟨A9, c9, hv9, hru9⟩ := KRow.out _ _ hown5; subst hv9; have hk := vcheck_v (r :: v) ix x A9 (n + 1) c9 w5 hru9 HX.out.2.2.2 HX.out.2.1 HX.out.1)
  have H5 := Lib.hid hown5
  have HU := Lib.hid hru9
  have KS : Hid (∀ W, Calm w5 W → Calls Tryd.prog 11 #[.slice A9 (n + 1) c9] W fun e w' => e = .returned (.bool y) ∧ Calm W w') := fun W hW => smallv_c (r :: v) y A9 (n + 1) c9 W (HU.out.calm hW) HX.out.2.2.2 HX.out.2.2.1
  clear hown5 hru9
  cases y with
  | false =>
    go_wp2_with (first
      | (go_at_call 10; refine hk.mono ?_; rintro e w6 ⟨rfl, hc6⟩)
      | (go_at_call 11; refine (KS.out w6 hc6).mono ?_; rintro e w7 ⟨rfl, hc7⟩)
      | (go_at_call 12; refine (KA.out w7 (HC.out.trans (H5.out.calm.trans (hc6.trans hc7)))).mono ?_; rintro e w8 ⟨rfl, hc8⟩))
    go_ret
    exact ⟨rfl, HC.out.trans (H5.out.calm.trans (hc6.trans (hc7.trans hc8)))⟩
  | true =>
    by_cases h300 : 300 < s.length
    · go_wp2_with (first
        | (go_at_call 10; refine hk.mono ?_; rintro e w6 ⟨rfl, hc6⟩)
        | (go_at_call 11; refine (KS.out w6 hc6).mono ?_; rintro e w7 ⟨rfl, hc7⟩)
        | (go_at_call 12; refine (KA.out w7 (HC.out.trans (H5.out.calm.trans (hc6.trans hc7)))).mono ?_; rintro e w8 ⟨rfl, hc8⟩))
      go_ret
      exact ⟨rfl, HC.out.trans (H5.out.calm.trans (hc6.trans (hc7.trans hc8)))⟩
    · by_cases hx0 : x = 0
      · subst hx0
        obtain ⟨hsm, _⟩ := smallW_small HX.out.2.2.1
        have hsv : ∀ q ∈ v, SmallV q := fun q hq => hsm q (by simp [hq])
        have hsr : SmallV r := hsm r (by simp)
        have h3 : s.length ≤ 300 := by omega
        have KD1 : Hid (∀ W z, Calm w W → decides v s = z → Calls Tryd.prog 16 #[.slice A n c, .string (bs s)] W fun e w' => e = .returned (.int .i64 z) ∧ Calm W w') := fun W z hW hz => vdec_v v s A n c W h3 (HM.out.calm hW) (HV.out.calm hW) hsv HN.out.1 z hz
        have KD2 : Hid (∀ W z, Calm w5 W → decides (r :: v) s = z → Calls Tryd.prog 16 #[.slice A9 (n + 1) c9, .string (bs s)] W fun e w' => e = .returned (.int .i64 z) ∧ Calm W w') := fun W z hW hz => vdec_v (r :: v) s A9 (n + 1) c9 W h3 (HM.out.calm (HC.out.trans (H5.out.calm.trans hW))) (HU.out.calm hW) hsm HX.out.2.2.2 z hz
        have KMt : Hid (∀ W z, Calm w W → matchS r.left s = z → Calls Tryd.prog 14 #[.agg #[.slice a.AL r.left.parts.length a.cl, .bool r.left.rest], .string (bs s)] W fun e w' => e = .returned (.bool z) ∧ Calm W w') := fun W z hW hz => by
          have h := HR.out.calm hW
          exact matches_c r.left s z a.AL a.cl W (by omega) (h.left hsr.small) h.lroom h.lcap (HM.out.calm hW) hz
        have hdl := decides_lt v s
        have hdl2 := decides_lt (r :: v) s
        by_cases hneg : decides v s < 0
        · have hd1 : decides v s = -1 := by omega
          obtain ⟨f1, f2⟩ := first_none HX.out.1 hneg
          have KD1' := fun W hW => KD1.out W (-1) hW hd1
          rcases hm : matchS r.left s with _ | _
          · have hd2 : decides (r :: v) s = -1 := by
              have : decides (r :: v) s ≠ 0 := fun e => by rw [f1.1 e] at hm; cases hm
              omega
            have KD2' := fun W hW => KD2.out W (-1) hW hd2
            have KM' := fun W hW => KMt.out W false hW hm
            clear KD1 KD2 KMt f1 f2 hm hd1 hd2 hneg hdl hdl2
            go_wp2_with (first
              | (go_at_call 10; refine hk.mono ?_; rintro e w6 ⟨rfl, hc6⟩)
              | (go_at_call 11; refine (KS.out w6 hc6).mono ?_; rintro e w7 ⟨rfl, hc7⟩))
            have HC7 := Lib.hid (HC.out.trans (H5.out.calm.trans (hc6.trans hc7)))
            refine (KD1' w7 HC7.out).mono ?_
            rintro e w8 ⟨rfl, hc8⟩
            go_wp2_with fail
            refine (KD2' w8 (hc6.trans (hc7.trans hc8))).mono ?_
            rintro e w9 ⟨rfl, hc9⟩
            have HC9 := Lib.hid (HC7.out.trans (hc8.trans hc9))
            have d := HB.out.calm (H5.out.calm.trans (hc6.trans (hc7.trans (hc8.trans hc9))))
            have d1 := d.c1
            have d2 := d.c2
            clear d
            go_wp2_with (first
              | (go_at_call 14; refine (KM' w9 HC9.out).mono ?_; rintro e w10 ⟨rfl, hc10⟩)
              | (go_at_call 12; refine (KA.out w10 (HC9.out.trans hc10)).mono ?_; rintro e w11 ⟨rfl, hc11⟩))
            go_ret
            exact ⟨rfl, HC9.out.trans (hc10.trans hc11)⟩
          · have hd2 : decides (r :: v) s = 0 := f1.2 hm
            have KD2' := fun W hW => KD2.out W 0 hW hd2
            have KM' := fun W hW => KMt.out W true hW hm
            clear KD1 KD2 KMt f1 f2 hm hd1 hd2 hneg hdl hdl2
            go_wp2_with (first
              | (go_at_call 10; refine hk.mono ?_; rintro e w6 ⟨rfl, hc6⟩)
              | (go_at_call 11; refine (KS.out w6 hc6).mono ?_; rintro e w7 ⟨rfl, hc7⟩))
            have HC7 := Lib.hid (HC.out.trans (H5.out.calm.trans (hc6.trans hc7)))
            refine (KD1' w7 HC7.out).mono ?_
            rintro e w8 ⟨rfl, hc8⟩
            go_wp2_with fail
            refine (KD2' w8 (hc6.trans (hc7.trans hc8))).mono ?_
            rintro e w9 ⟨rfl, hc9⟩
            have HC9 := Lib.hid (HC7.out.trans (hc8.trans hc9))
            have d := HB.out.calm (H5.out.calm.trans (hc6.trans (hc7.trans (hc8.trans hc9))))
            have d1 := d.c1
            have d2 := d.c2
            clear d
            go_wp2_with (first
              | (go_at_call 14; refine (KM' w9 HC9.out).mono ?_; rintro e w10 ⟨rfl, hc10⟩)
              | (go_at_call 12; refine (KA.out w10 (HC9.out.trans hc10)).mono ?_; rintro e w11 ⟨rfl, hc11⟩))
            go_ret
            exact ⟨rfl, HC9.out.trans (hc10.trans hc11)⟩
        · obtain ⟨k, hk1⟩ : ∃ k : Nat, decides v s = k := ⟨(decides v s).toNat, by omega⟩
          obtain ⟨f1, f2⟩ := first_some (s := s) HX.out.1 (by omega)
          have hk2 : decides (r :: v) s = (k : Int) + 1 := by rw [f1, hk1]
          have KD1' := fun W hW => KD1.out W k hW hk1
          have KD2' := fun W hW => KD2.out W _ hW hk2
          obtain ⟨fs, hfs⟩ : ∃ fs, bs ((vfwd v s).getD []) = fs := ⟨_, rfl⟩
          obtain ⟨fb, hfb⟩ : ∃ fb, (vfwd v s).isSome = fb := ⟨_, rfl⟩
          have e1 : vfV v s = .tuple #[.string fs, .bool fb] := by rw [vfV, hfs, hfb]
          have KF1 : Hid (∀ W, Calm w W → Calls Tryd.prog 13 #[.slice A n c, .string (bs s)] W fun e w' => e = .returned (.tuple #[.string fs, .bool fb]) ∧ Calm W w') := fun W hW => vfwd_v v s _ A n c W h3 (HM.out.calm hW) (HV.out.calm hW) hsv HN.out.1 e1
          have KF2 : Hid (∀ W, Calm w5 W → Calls Tryd.prog 13 #[.slice A9 (n + 1) c9, .string (bs s)] W fun e w' => e = .returned (.tuple #[.string fs, .bool fb]) ∧ Calm W w') := fun W hW => vfwd_v (r :: v) s _ A9 (n + 1) c9 W h3 (HM.out.calm (HC.out.trans (H5.out.calm.trans hW))) (HU.out.calm hW) hsm HX.out.2.2.2 (by rw [vfV_eq f2, e1])
          have hkb : k ≤ 1048577 := by
            rw [hk1, HN.out.1] at hdl
            omega
          clear KD1 KD2 KMt f1 f2 hk1 hk2 hneg hdl hdl2 e1 hfs hfb
          go_wp2_with (first
            | (go_at_call 10; refine hk.mono ?_; rintro e w6 ⟨rfl, hc6⟩)
            | (go_at_call 11; refine (KS.out w6 hc6).mono ?_; rintro e w7 ⟨rfl, hc7⟩))
          have HC7 := Lib.hid (HC.out.trans (H5.out.calm.trans (hc6.trans hc7)))
          refine (KD1' w7 HC7.out).mono ?_
          rintro e w8 ⟨rfl, hc8⟩
          go_wp2_with fail
          refine (KD2' w8 (hc6.trans (hc7.trans hc8))).mono ?_
          rintro e w9 ⟨rfl, hc9⟩
          have HC9 := Lib.hid (HC7.out.trans (hc8.trans hc9))
          go_wp2_with fail
          refine (KF1.out w9 HC9.out).mono ?_
          rintro e w10 ⟨rfl, hc10⟩
          go_wp2_with fail
          refine (KF2.out w10 (hc6.trans (hc7.trans (hc8.trans (hc9.trans hc10))))).mono ?_
          rintro e w11 ⟨rfl, hc11⟩
          have HC11 := Lib.hid (HC9.out.trans (hc10.trans hc11))
          go_wp2_with (go_at_call 12; refine (KA.out w11 HC11.out).mono ?_; rintro e w12 ⟨rfl, hc12⟩)
          go_ret
          exact ⟨rfl, HC11.out.trans hc12⟩
      · have hvb : (x != 0) = true := by simpa using hx0
        go_wp2_with (first
          | (go_at_call 10; refine hk.mono ?_; rintro e w6 ⟨rfl, hc6⟩)
          | (go_at_call 11; refine (KS.out w6 hc6).mono ?_; rintro e w7 ⟨rfl, hc7⟩)
          | (go_at_call 12; refine (KA.out w7 (HC.out.trans (H5.out.calm.trans (hc6.trans hc7)))).mono ?_; rintro e w8 ⟨rfl, hc8⟩))
        go_ret
        exact ⟨rfl, HC.out.trans (H5.out.calm.trans (hc6.trans (hc7.trans hc8)))⟩
end Go.Proofs.YtoaelfdkamgdaaaDoor
