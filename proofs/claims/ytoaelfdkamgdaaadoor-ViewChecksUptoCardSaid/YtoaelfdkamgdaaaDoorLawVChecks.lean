/- The law ViewChecks: its walk. -/
import Derived.Test.YtoaelfdkamgdaaaDoorLawOne
import Derived.Test.YtoaelfdkamgdaaaDoorSameV
set_option linter.unusedVariables false
set_option linter.unusedSimpArgs false
namespace Go.Proofs.YtoaelfdkamgdaaaDoor
open Go Go.RowKit Sy

set_option maxRecDepth 100000 in
set_option maxHeartbeats 8000000 in
theorem viewChecks_c (v : List Rule) (A : Option Addr) (n c : Nat) (w : World) (hv : RulesU w A v) (hn : v.length = n) (hM : MaxL w) :
    Calls Tryd.prog 6 #[.slice A n c] w fun e w' => e = .returned (.bool true) ∧ Calm w w' := by
  obtain ⟨y, hy⟩ : ∃ y, smallW v = y := ⟨_, rfl⟩
  have hsmall := smallv_c v y A n c w hv hn hy
  have hlen := hv.len
  rw [hn] at hlen
  have KA : Hid (∀ W, Calm w W → Calls Tryd.prog 12 #[] W fun e w' => e = .returned (.bool true) ∧ Calm W w') := fun W hW => awakev_c W (hM.calm hW)
  cases y with
  | false =>
    clear hv hn hM hy
    go_enter Tryd.func6, Tryd.ntmps6
    go_wp2_with (first
      | (go_at_call 11; refine hsmall.mono ?_; rintro e w2 ⟨rfl, hc2⟩)
      | (go_at_call 12; refine (KA.out w2 hc2).mono ?_; rintro e w3 ⟨rfl, hc3⟩))
    go_ret
    exact ⟨rfl, hc2.trans hc3⟩
  | true =>
    obtain ⟨hsm, _⟩ := smallW_small hy
    obtain ⟨ix, hix⟩ : ∃ ix, viewIx v = ix := ⟨_, rfl⟩
    obtain ⟨x, hx⟩ : ∃ x, viewErr v = x := ⟨_, rfl⟩
    have KC : Hid (∀ W, Calm w W → Calls Tryd.prog 10 #[.slice A n c] W fun e w' => e = .returned (.tuple #[.int .i64 (ix : Nat), .int .i64 x]) ∧ Calm W w') := fun W hW => vcheck_v v ix x A n c W (hv.calm hW) hn hix hx
    have KR : Hid (∀ W, Calm w W → Calls Tryd.prog 17 #[.slice A n c] W fun e w' => e = .returned (.tuple #[.int .i64 (ix : Nat), .int .i64 x]) ∧ Calm W w') := fun W hW => rvcheck_v v ix x A n c W (hv.calm hW) hsm hn hix hx
    have KT : Hid (∀ W, Calm w W → Calls Tryd.prog 18 #[.slice A n c] W fun e w' => (∃ A2 c2, e = .returned (.slice A2 n c2) ∧ RulesU w' A2 (turnV v)) ∧ Calm W w') := fun W hW => by
      have := vturn_c v A n c W (hv.calm hW) hn
      unfold TurnVEnd at this
      rw [hn] at this
      exact this
    have KU : Hid (∀ W, Calm w W → Calls Tryd.prog 19 #[.slice A n c] W fun e w' => (∃ A2 c2, e = .returned (.slice A2 n c2) ∧ RulesU w' A2 (turnV v)) ∧ Calm W w') := fun W hW => by
      have := rvturn_c v A n c W (hv.calm hW) hn
      unfold TurnVEnd at this
      rw [hn] at this
      exact this
    have HN : Hid ((turnV v).length = n) := by
      show (turnV v).length = n
      rw [turn_len, hn]
    clear hv hn hM hy hsm hix hx
    go_enter Tryd.func6, Tryd.ntmps6
    go_wp2_with (first
      | (go_at_call 11; refine hsmall.mono ?_; rintro e w2 ⟨rfl, hc2⟩)
      | (go_at_call 10; refine (KC.out w2 hc2).mono ?_; rintro e w3 ⟨rfl, hc3⟩)
      | (go_at_call 17; refine (KR.out w3 (hc2.trans hc3)).mono ?_; rintro e w4 ⟨rfl, hc4⟩)
      | (go_at_call 18; refine (KT.out w4 (hc2.trans (hc3.trans hc4))).mono ?_; rintro e w5 ⟨⟨A5, c5, rfl, hr5⟩, hc5⟩; have HC5 := Lib.hid (hc2.trans (hc3.trans (hc4.trans hc5))); have HR5 := Lib.hid hr5; clear hr5)
      | (go_at_call 19; refine (KU.out w5 HC5.out).mono ?_; rintro e w6 ⟨⟨A6, c6, rfl, hr6⟩, hc6⟩; have HC6 := Lib.hid (HC5.out.trans hc6); have HR6 := Lib.hid hr6; have HR56 := Lib.hid (HR5.out.calm hc6); clear hr6))
    go_loopw [45] (fun q wr => ∃ k : Nat, k ≤ n ∧ q = .int .i64 k ∧ Hid (Calm w6 wr)) (fun q _ => n - (intOf q).toNat)
    case atStart => exact ⟨0, Nat.zero_le _, rfl, Calm.refl _⟩
    case round =>
      obtain ⟨k, hk, rfl, HC⟩ := hrel
      by_cases hlt : k < n
      · obtain ⟨b, o, r, a, rfl, hb, hr, hat, hru⟩ := (HR56.out.calm HC.out).get (k := k) (by rw [HN.out]; exact hlt)
        obtain ⟨b', o', r', a', rfl, hb', hr', hat', hru'⟩ := (HR6.out.calm HC.out).get (k := k) (by rw [HN.out]; exact hlt)
        obtain rfl : r = r' := by rw [hr] at hr'; exact Option.some.inj hr'
        have K1 := Lib.hid (fun p : CalmTo wr => rsame_c r a a' p.w (hru.calm p.h) (hru'.calm p.h))
        have e0 := fun p : CalmTo wr => p.cell hat.c0 hb
        have e1 := fun p : CalmTo wr => p.cell hat.c1 hb
        have e2 := fun p : CalmTo wr => p.cell hat.c2 hb
        have e3 := fun p : CalmTo wr => p.cell hat.c3 hb
        have e4 := fun p : CalmTo wr => p.cell hat.c4 hb
        have g0 := fun p : CalmTo wr => p.cell hat'.c0 hb'
        have g1 := fun p : CalmTo wr => p.cell hat'.c1 hb'
        have g2 := fun p : CalmTo wr => p.cell hat'.c2 hb'
        have g3 := fun p : CalmTo wr => p.cell hat'.c3 hb'
        have g4 := fun p : CalmTo wr => p.cell hat'.c4 hb'
        clear hr hat hru hr' hat' hru'
        go_wp2_with fail
        refine wp_region_calm (by kernel_rfl) (by kernel_rfl) ?_
        repeat (go_big_quiet_step ((go_at_call 20; exact calmOf (K1.out _))))
        refine wpQuiet_nil ?_
        intro w7 hc7
        go_wp2
        go_roundw
        case rel => exact ⟨k + 1, by omega, by go_num, HC.out.trans hc7⟩
        case measure => simp [intOf]; omega
      · obtain rfl : k = n := by omega
        go_wp2_with (go_at_call 12; refine (KA.out wr (HC6.out.trans HC.out)).mono ?_; rintro e w8 ⟨rfl, hc8⟩)
        go_ret
        exact ⟨rfl, HC6.out.trans (HC.out.trans hc8)⟩
end Go.Proofs.YtoaelfdkamgdaaaDoor
