/- The law ViewTurns: its walk. -/
import Derived.Test.YtoaelfdkamgdaaaDoorLawOne
set_option linter.unusedVariables false
set_option linter.unusedSimpArgs false
namespace Go.Proofs.YtoaelfdkamgdaaaDoor
open Go Go.RowKit Sy

set_option maxRecDepth 100000 in
set_option maxHeartbeats 4000000 in
theorem viewTurns_c (v : List Rule) (s : Str) (A : Option Addr) (n c : Nat) (w : World) (hv : RulesU w A v) (hn : v.length = n) (hs : s.length ≤ 1048576) (hM : MaxL w) :
    Calls Tryd.prog 8 #[.slice A n c, .string (bs s)] w fun e w' => e = .returned (.bool true) ∧ Calm w w' := by
  obtain ⟨y, hy⟩ : ∃ y, smallW v = y := ⟨_, rfl⟩
  have hsmall := smallv_c v y A n c w hv hn hy
  have hlen := hv.len
  rw [hn] at hlen
  have hsz := bs_size s
  have KA : Hid (∀ W, Calm w W → Calls Tryd.prog 12 #[] W fun e w' => e = .returned (.bool true) ∧ Calm W w') := fun W hW => awakev_c W (hM.calm hW)
  cases y with
  | false =>
    clear hv hn hM hy
    go_enter Tryd.func8, Tryd.ntmps8
    go_wp2_with (first
      | (go_at_call 11; refine hsmall.mono ?_; rintro e w2 ⟨rfl, hc2⟩)
      | (go_at_call 12; refine (KA.out w2 hc2).mono ?_; rintro e w3 ⟨rfl, hc3⟩))
    go_ret
    exact ⟨rfl, hc2.trans hc3⟩
  | true =>
    obtain ⟨hsm, _⟩ := smallW_small hy
    by_cases h300 : 300 < s.length
    · clear hv hn hM hy hsm
      go_enter Tryd.func8, Tryd.ntmps8
      go_wp2_with (first
        | (go_at_call 11; refine hsmall.mono ?_; rintro e w2 ⟨rfl, hc2⟩)
        | (go_at_call 12; refine (KA.out w2 hc2).mono ?_; rintro e w3 ⟨rfl, hc3⟩))
      go_ret
      exact ⟨rfl, hc2.trans hc3⟩
    · have h3 : s.length ≤ 300 := by omega
      obtain ⟨ix, hix⟩ : ∃ ix, viewIx v = ix := ⟨_, rfl⟩
      obtain ⟨x, hx⟩ : ∃ x, viewErr v = x := ⟨_, rfl⟩
      obtain ⟨iy, hiy⟩ : ∃ iy, viewIx (turnV v) = iy := ⟨_, rfl⟩
      have KT : Hid (∀ W, Calm w W → Calls Tryd.prog 18 #[.slice A n c] W fun e w' => (∃ A2 c2, e = .returned (.slice A2 n c2) ∧ RulesU w' A2 (turnV v)) ∧ Calm W w') := fun W hW => by
        have := vturn_c v A n c W (hv.calm hW) hn
        unfold TurnVEnd at this
        rw [hn] at this
        exact this
      have KC : Hid (∀ W, Calm w W → Calls Tryd.prog 10 #[.slice A n c] W fun e w' => e = .returned (.tuple #[.int .i64 (ix : Nat), .int .i64 x]) ∧ Calm W w') := fun W hW => vcheck_v v ix x A n c W (hv.calm hW) hn hix hx
      by_cases hx0 : x = 0
      · subst hx0
        have ht0 : viewErr (turnV v) = 0 := (turnV_ok v).2 hx
        have KC2 : Hid (∀ W A2 c2, RulesU W A2 (turnV v) → Calls Tryd.prog 10 #[.slice A2 n c2] W fun e w' => e = .returned (.tuple #[.int .i64 (iy : Nat), .int .i64 0]) ∧ Calm W w') := fun W A2 c2 hr => vcheck_v (turnV v) iy 0 A2 n c2 W hr (by rw [turn_len, hn]) hiy ht0
        obtain ⟨fs, hfs⟩ : ∃ fs, bs ((vfwd (turnV v) s).getD []) = fs := ⟨_, rfl⟩
        obtain ⟨fb, hfb⟩ : ∃ fb, (vfwd (turnV v) s).isSome = fb := ⟨_, rfl⟩
        have e1 : vfV (turnV v) s = .tuple #[.string fs, .bool fb] := by rw [vfV, hfs, hfb]
        have KF : Hid (∀ W A2 c2, Calm w W → RulesU W A2 (turnV v) → Calls Tryd.prog 13 #[.slice A2 n c2, .string (bs s)] W fun e w' => e = .returned (.tuple #[.string fs, .bool fb]) ∧ Calm W w') := fun W A2 c2 hW hr => vfwd_v (turnV v) s _ A2 n c2 W h3 (hM.calm hW) hr (turn_small hsm) (by rw [turn_len, hn]) e1
        have KB : Hid (∀ W, Calm w W → Calls Tryd.prog 21 #[.slice A n c, .string (bs s)] W fun e w' => e = .returned (.tuple #[.string fs, .bool fb]) ∧ Calm W w') := fun W hW => vbwd_v v s _ A n c W h3 (hM.calm hW) (hv.calm hW) hsm hn e1
        clear hv hn hM hy hsm hs hix hx hiy hfs hfb e1 ht0
        go_enter Tryd.func8, Tryd.ntmps8
        go_wp2_with (first
          | (go_at_call 11; refine hsmall.mono ?_; rintro e w2 ⟨rfl, hc2⟩)
          | (go_at_call 18; refine (KT.out w2 hc2).mono ?_; rintro e w3 ⟨⟨A2, c2, rfl, hr3⟩, hc3⟩))
        have HR3 := Lib.hid hr3
        have HC3 := Lib.hid (hc2.trans hc3)
        clear hr3 KT hsmall
        refine (KC.out w3 HC3.out).mono ?_
        rintro e w4 ⟨rfl, hc4⟩
        go_wp2_with fail
        refine (KC2.out w4 A2 c2 (HR3.out.calm hc4)).mono ?_
        rintro e w5 ⟨rfl, hc5⟩
        have HC5 := Lib.hid (HC3.out.trans (hc4.trans hc5))
        have HR5 := Lib.hid (HR3.out.calm (hc4.trans hc5))
        go_wp2_with (first
          | (go_at_call 13; refine (KF.out w5 A2 c2 HC5.out HR5.out).mono ?_; rintro e w6 ⟨rfl, hc6⟩)
          | (go_at_call 21; refine (KB.out w6 (HC5.out.trans hc6)).mono ?_; rintro e w7 ⟨rfl, hc7⟩)
          | (go_at_call 12; refine (KA.out w7 (HC5.out.trans (hc6.trans hc7))).mono ?_; rintro e w8 ⟨rfl, hc8⟩))
        go_ret
        exact ⟨rfl, HC5.out.trans (hc6.trans (hc7.trans hc8))⟩
      · have hvb : (x != 0) = true := by simpa using hx0
        clear hv hn hM hy hsm hs hix hx hiy hx0
        go_enter Tryd.func8, Tryd.ntmps8
        go_wp2_with (first
          | (go_at_call 11; refine hsmall.mono ?_; rintro e w2 ⟨rfl, hc2⟩)
          | (go_at_call 18; refine (KT.out w2 hc2).mono ?_; rintro e w3 ⟨⟨A2, c2, rfl, hr3⟩, hc3⟩))
        refine (KC.out w3 (hc2.trans hc3)).mono ?_
        rintro e w4 ⟨rfl, hc4⟩
        go_wp2_with (go_at_call 12; refine (KA.out w4 (hc2.trans (hc3.trans hc4))).mono ?_; rintro e w5 ⟨rfl, hc5⟩)
        go_ret
        exact ⟨rfl, hc2.trans (hc3.trans (hc4.trans hc5))⟩
end Go.Proofs.YtoaelfdkamgdaaaDoor
