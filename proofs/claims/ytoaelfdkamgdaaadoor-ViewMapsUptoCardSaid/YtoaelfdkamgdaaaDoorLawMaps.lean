/- The law ViewMaps: its walk. -/
import Derived.Test.YtoaelfdkamgdaaaDoorLawOne
import Derived.Test.YtoaelfdkamgdaaaDoorRefV
set_option linter.unusedVariables false
set_option linter.unusedSimpArgs false
namespace Go.Proofs.YtoaelfdkamgdaaaDoor
open Go Go.RowKit Sy

theorem rvdec_v (v : List Rule) (s : Str) (A : Option Addr) (n c : Nat) (w : World) (hs : s.length ≤ 300) (hM : MaxL w) (hv : RulesU w A v) (hsm : ∀ r ∈ v, SmallV r) (hn : v.length = n) :
    ∀ x, decides v s = x → Calls Tryd.prog 23 #[.slice A n c, .string (bs s)] w fun e w' => e = .returned (.int .i64 x) ∧ Calm w w' := fun x hx =>
  rvdec_c v s x A n c w (by omega) hM hv hsm hn hx

set_option maxRecDepth 100000 in
set_option maxHeartbeats 8000000 in
theorem viewMaps_c (v : List Rule) (s : Str) (A : Option Addr) (n c : Nat) (w : World) (hv : RulesU w A v) (hn : v.length = n) (hs : s.length ≤ 1048576) (hM : MaxL w) :
    Calls Tryd.prog 9 #[.slice A n c, .string (bs s)] w fun e w' => e = .returned (.bool true) ∧ Calm w w' := by
  obtain ⟨y, hy⟩ : ∃ y, smallW v = y := ⟨_, rfl⟩
  have hsmall := smallv_c v y A n c w hv hn hy
  have hlen := hv.len
  rw [hn] at hlen
  have hsz := bs_size s
  have KA : Hid (∀ W, Calm w W → Calls Tryd.prog 12 #[] W fun e w' => e = .returned (.bool true) ∧ Calm W w') := fun W hW => awakev_c W (hM.calm hW)
  cases y with
  | false =>
    clear hv hn hM hy
    go_enter Tryd.func9, Tryd.ntmps9
    go_wp2_with (first
      | (go_at_call 11; refine hsmall.mono ?_; rintro e w2 ⟨rfl, hc2⟩)
      | (go_at_call 12; refine (KA.out w2 hc2).mono ?_; rintro e w3 ⟨rfl, hc3⟩))
    go_ret
    exact ⟨rfl, hc2.trans hc3⟩
  | true =>
    obtain ⟨hsm, _⟩ := smallW_small hy
    by_cases h300 : 300 < s.length
    · clear hv hn hM hy hsm
      go_enter Tryd.func9, Tryd.ntmps9
      go_wp2_with (first
        | (go_at_call 11; refine hsmall.mono ?_; rintro e w2 ⟨rfl, hc2⟩)
        | (go_at_call 12; refine (KA.out w2 hc2).mono ?_; rintro e w3 ⟨rfl, hc3⟩))
      go_ret
      exact ⟨rfl, hc2.trans hc3⟩
    · have h3 : s.length ≤ 300 := by omega
      obtain ⟨ix, hix⟩ : ∃ ix, viewIx v = ix := ⟨_, rfl⟩
      obtain ⟨x, hx⟩ : ∃ x, viewErr v = x := ⟨_, rfl⟩
      obtain ⟨d, hd⟩ : ∃ d, decides v s = d := ⟨_, rfl⟩
      obtain ⟨fs, hfs⟩ : ∃ fs, bs ((vfwd v s).getD []) = fs := ⟨_, rfl⟩
      obtain ⟨fb, hfb⟩ : ∃ fb, (vfwd v s).isSome = fb := ⟨_, rfl⟩
      obtain ⟨gs, hgs⟩ : ∃ gs, bs ((vfwd (turnV v) s).getD []) = gs := ⟨_, rfl⟩
      obtain ⟨gb, hgb⟩ : ∃ gb, (vfwd (turnV v) s).isSome = gb := ⟨_, rfl⟩
      have e1 : vfV v s = .tuple #[.string fs, .bool fb] := by rw [vfV, hfs, hfb]
      have e2 : vfV (turnV v) s = .tuple #[.string gs, .bool gb] := by rw [vfV, hgs, hgb]
      have KT : Hid (∀ W, Calm w W → Calls Tryd.prog 19 #[.slice A n c] W fun e w' => (∃ A2 c2, e = .returned (.slice A2 n c2) ∧ RulesU w' A2 (turnV v)) ∧ Calm W w') := fun W hW => by
        have := rvturn_c v A n c W (hv.calm hW) hn
        unfold TurnVEnd at this
        rw [hn] at this
        exact this
      have KC : Hid (∀ W, Calm w W → Calls Tryd.prog 17 #[.slice A n c] W fun e w' => e = .returned (.tuple #[.int .i64 (ix : Nat), .int .i64 x]) ∧ Calm W w') := fun W hW => rvcheck_v v ix x A n c W (hv.calm hW) hsm hn hix hx
      have KF : Hid (∀ W, Calm w W → Calls Tryd.prog 13 #[.slice A n c, .string (bs s)] W fun e w' => e = .returned (.tuple #[.string fs, .bool fb]) ∧ Calm W w') := fun W hW => vfwd_v v s _ A n c W h3 (hM.calm hW) (hv.calm hW) hsm hn e1
      have KR : Hid (∀ W, Calm w W → Calls Tryd.prog 22 #[.slice A n c, .string (bs s)] W fun e w' => e = .returned (.tuple #[.string fs, .bool fb]) ∧ Calm W w') := fun W hW => rvfwd_v v s _ A n c W h3 (hM.calm hW) (hv.calm hW) hsm hn e1
      have KD : Hid (∀ W, Calm w W → Calls Tryd.prog 16 #[.slice A n c, .string (bs s)] W fun e w' => e = .returned (.int .i64 d) ∧ Calm W w') := fun W hW => vdec_v v s A n c W h3 (hM.calm hW) (hv.calm hW) hsm hn d hd
      have KE : Hid (∀ W, Calm w W → Calls Tryd.prog 23 #[.slice A n c, .string (bs s)] W fun e w' => e = .returned (.int .i64 d) ∧ Calm W w') := fun W hW => rvdec_v v s A n c W h3 (hM.calm hW) (hv.calm hW) hsm hn d hd
      have KB : Hid (∀ W, Calm w W → Calls Tryd.prog 21 #[.slice A n c, .string (bs s)] W fun e w' => e = .returned (.tuple #[.string gs, .bool gb]) ∧ Calm W w') := fun W hW => vbwd_v v s _ A n c W h3 (hM.calm hW) (hv.calm hW) hsm hn e2
      have KG : Hid (∀ W A2 c2, Calm w W → RulesU W A2 (turnV v) → Calls Tryd.prog 22 #[.slice A2 n c2, .string (bs s)] W fun e w' => e = .returned (.tuple #[.string gs, .bool gb]) ∧ Calm W w') := fun W A2 c2 hW hr => rvfwd_v (turnV v) s _ A2 n c2 W h3 (hM.calm hW) hr (turn_small hsm) (by rw [turn_len, hn]) e2
      have hdl := decides_lt v s
      rw [hd, hn] at hdl
      obtain ⟨hd1, hd2⟩ := hdl
      have hno : x ≠ 0 → gs = ⟨#[]⟩ ∧ gb = false := fun h => by
        have h1 : vfwd (turnV v) s = none := vfwd_err (fun e => h (by rw [← hx]; exact (turnV_ok v).1 e))
        rw [h1] at hgs hgb
        exact ⟨hgs.symm, hgb.symm⟩
      clear hv hn hM hy hsm hs hix hx hd hfs hfb hgs hgb e1 e2
      by_cases hx0 : x = 0
      · subst hx0
        clear hno
        go_enter Tryd.func9, Tryd.ntmps9
        go_wp2_with (first
          | (go_at_call 11; refine hsmall.mono ?_; rintro e w2 ⟨rfl, hc2⟩)
          | (go_at_call 13; refine (KF.out w2 hc2).mono ?_; rintro e w3 ⟨rfl, hc3⟩))
        have HC3 := Lib.hid (hc2.trans hc3)
        refine (KR.out w3 HC3.out).mono ?_
        rintro e w4 ⟨rfl, hc4⟩
        clear KR KF hsmall
        have HC4 := Lib.hid (HC3.out.trans hc4)
        go_wp2_with (first
          | (go_at_call 16; refine (KD.out w4 HC4.out).mono ?_; rintro e w5 ⟨rfl, hc5⟩)
          | (go_at_call 23; refine (KE.out w5 (HC4.out.trans hc5)).mono ?_; rintro e w6 ⟨rfl, hc6⟩)
          | (go_at_call 21; refine (KB.out w6 (HC4.out.trans (hc5.trans hc6))).mono ?_; rintro e w7 ⟨rfl, hc7⟩)
          | (go_at_call 19; refine (KT.out w7 (HC4.out.trans (hc5.trans (hc6.trans hc7)))).mono ?_; rintro e w8 ⟨⟨A2, c2, rfl, hr8⟩, hc8⟩))
        have HC8 := Lib.hid (HC4.out.trans (hc5.trans (hc6.trans (hc7.trans hc8))))
        refine (KG.out w8 A2 c2 HC8.out hr8).mono ?_
        rintro e w9 ⟨rfl, hc9⟩
        clear hr8
        go_wp2_with (first
          | (go_at_call 17; refine (KC.out w9 (HC8.out.trans hc9)).mono ?_; rintro e w10 ⟨rfl, hc10⟩)
          | (go_at_call 12; refine (KA.out w10 (HC8.out.trans (hc9.trans hc10))).mono ?_; rintro e w11 ⟨rfl, hc11⟩))
        go_ret
        exact ⟨rfl, HC8.out.trans (hc9.trans (hc10.trans hc11))⟩
      · obtain ⟨rfl, rfl⟩ := hno hx0
        have hvb : (x != 0) = true := by simpa using hx0
        clear hno hx0
        go_enter Tryd.func9, Tryd.ntmps9
        go_wp2_with (first
          | (go_at_call 11; refine hsmall.mono ?_; rintro e w2 ⟨rfl, hc2⟩)
          | (go_at_call 13; refine (KF.out w2 hc2).mono ?_; rintro e w3 ⟨rfl, hc3⟩))
        have HC3 := Lib.hid (hc2.trans hc3)
        refine (KR.out w3 HC3.out).mono ?_
        rintro e w4 ⟨rfl, hc4⟩
        clear KR KF hsmall
        have HC4 := Lib.hid (HC3.out.trans hc4)
        go_wp2_with (first
          | (go_at_call 16; refine (KD.out w4 HC4.out).mono ?_; rintro e w5 ⟨rfl, hc5⟩)
          | (go_at_call 23; refine (KE.out w5 (HC4.out.trans hc5)).mono ?_; rintro e w6 ⟨rfl, hc6⟩)
          | (go_at_call 21; refine (KB.out w6 (HC4.out.trans (hc5.trans hc6))).mono ?_; rintro e w7 ⟨rfl, hc7⟩)
          | (go_at_call 19; refine (KT.out w7 (HC4.out.trans (hc5.trans (hc6.trans hc7)))).mono ?_; rintro e w8 ⟨⟨A2, c2, rfl, hr8⟩, hc8⟩))
        have HC8 := Lib.hid (HC4.out.trans (hc5.trans (hc6.trans (hc7.trans hc8))))
        refine (KG.out w8 A2 c2 HC8.out hr8).mono ?_
        rintro e w9 ⟨rfl, hc9⟩
        clear hr8
        go_wp2_with (first
          | (go_at_call 17; refine (KC.out w9 (HC8.out.trans hc9)).mono ?_; rintro e w10 ⟨rfl, hc10⟩)
          | (go_at_call 12; refine (KA.out w10 (HC8.out.trans (hc9.trans hc10))).mono ?_; rintro e w11 ⟨rfl, hc11⟩))
        go_ret
        exact ⟨rfl, HC8.out.trans (hc9.trans (hc10.trans hc11))⟩
end Go.Proofs.YtoaelfdkamgdaaaDoor
