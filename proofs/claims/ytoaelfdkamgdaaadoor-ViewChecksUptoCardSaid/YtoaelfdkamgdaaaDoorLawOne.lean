/- The law ViewOneToOne: its walk. -/
import Derived.Test.YtoaelfdkamgdaaaDoorLawDec
import Derived.Test.YtoaelfdkamgdaaaDoorTurnV
set_option linter.unusedVariables false
set_option linter.unusedSimpArgs false
namespace Go.Proofs.YtoaelfdkamgdaaaDoor
open Go Go.RowKit Sy

theorem hT_of {v : List Rule} {t u : Str} (h : vfwd v t = some u) (hu : u.length ≤ 10000) : ∀ (k : Nat) r t', decL v t = k → v[k]? = some r → fwd r t = some t' → t'.length ≤ 10000 := fun k r t' h1 h2 h3 => by
  obtain ⟨_, k', r', g1, g2, _, g4, _⟩ := vfwd_some.1 h
  rw [h1] at g1
  have : k = k' := by omega
  subst this
  rw [h2] at g2
  cases g2
  rw [h3] at g4
  cases g4
  exact hu
theorem turn_small {v : List Rule} (h : ∀ r ∈ v, SmallV r) : ∀ r ∈ turnV v, SmallV r := fun r hr => by
  obtain ⟨q, hq, rfl⟩ := List.mem_map.1 hr
  exact (h q hq).turn
theorem turn_len (v : List Rule) : (turnV v).length = v.length := by simp [turnV]
theorem vfwd_len {v : List Rule} {s t : Str} (hsm : ∀ r ∈ v, SmallV r) (hs : s.length ≤ 300) (h : vfwd v s = some t) : t.length ≤ 5000 := by
  obtain ⟨_, k, r, _, g2, _, g4, _⟩ := vfwd_some.1 h
  exact fwd_len (hsm r (List.mem_of_getElem? g2)) hs g4

set_option maxHeartbeats 1000000 in
theorem vbwd_c (v : List Rule) (s : Str) (u : Value) (A : Option Addr) (n c : Nat) (w : World) (hs : s.length ≤ 10000) (hM : MaxL w) (hv : RulesU w A v) (hsm : ∀ r ∈ v, SmallV r) (hn : v.length = n)
    (hT : ∀ (k : Nat) r t, decL (turnV v) s = k → (turnV v)[k]? = some r → fwd r s = some t → t.length ≤ 10000) (hu : vfV (turnV v) s = u) :
    Calls Tryd.prog 21 #[.slice A n c, .string (bs s)] w fun e w' => e = .returned u ∧ Calm w w' := by
  have ht : Calls Tryd.prog 18 #[.slice A n c] w fun e w' => (∃ A2 c2, e = .returned (.slice A2 n c2) ∧ RulesU w' A2 (turnV v)) ∧ Calm w w' := by
    have := vturn_c v A n c w hv hn
    unfold TurnVEnd at this
    rw [hn] at this
    exact this
  have KF : Hid (∀ W A2 c2, Calm w W → RulesU W A2 (turnV v) → Calls Tryd.prog 13 #[.slice A2 n c2, .string (bs s)] W fun e w' => e = .returned u ∧ Calm W w') := fun W A2 c2 hW hr => by
    rw [← hu]
    exact vfwd_c (turnV v) s A2 n c2 W hs (hM.calm hW) hr (turn_small hsm) (by rw [turn_len, hn]) hT
  obtain ⟨x, y, hxy⟩ : ∃ x y, u = .tuple #[.string x, .bool y] := ⟨_, _, hu.symm⟩
  subst hxy
  clear hM hv hsm hn hT hu
  go_enter Tryd.func21, Tryd.ntmps21
  go_wp2_with (first
    | (go_at_call 18; refine ht.mono ?_; rintro e w2 ⟨⟨A2, c2, rfl, hr2⟩, hc2⟩)
    | (go_at_call 13; refine (KF.out w2 A2 c2 hc2 hr2).mono ?_; rintro e w3 ⟨rfl, hc3⟩))
  go_ret2
  exact ⟨rfl, hc2.trans hc3⟩
theorem vbwd_v (v : List Rule) (s : Str) (u : Value) (A : Option Addr) (n c : Nat) (w : World) (hs : s.length ≤ 300) (hM : MaxL w) (hv : RulesU w A v) (hsm : ∀ r ∈ v, SmallV r) (hn : v.length = n) (hu : vfV (turnV v) s = u) :
    Calls Tryd.prog 21 #[.slice A n c, .string (bs s)] w fun e w' => e = .returned u ∧ Calm w w' :=
  vbwd_c v s u A n c w (by omega) hM hv hsm hn (fun k r t _ hr hf => by have := fwd_len (turn_small hsm r (List.mem_of_getElem? hr)) hs hf; omega) hu

set_option maxRecDepth 100000 in
set_option maxHeartbeats 4000000 in
theorem viewOne_c (v : List Rule) (s : Str) (A : Option Addr) (n c : Nat) (w : World) (hv : RulesU w A v) (hn : v.length = n) (hs : s.length ≤ 1048576) (hM : MaxL w) :
    Calls Tryd.prog 7 #[.slice A n c, .string (bs s)] w fun e w' => e = .returned (.bool true) ∧ Calm w w' := by
  obtain ⟨y, hy⟩ : ∃ y, smallW v = y := ⟨_, rfl⟩
  have hsmall := smallv_c v y A n c w hv hn hy
  have hlen := hv.len
  rw [hn] at hlen
  have hsz := bs_size s
  have KA : Hid (∀ W, Calm w W → Calls Tryd.prog 12 #[] W fun e w' => e = .returned (.bool true) ∧ Calm W w') := fun W hW => awakev_c W (hM.calm hW)
  cases y with
  | false =>
    clear hv hn hM hy
    go_enter Tryd.func7, Tryd.ntmps7
    go_wp2_with (first
      | (go_at_call 11; refine hsmall.mono ?_; rintro e w2 ⟨rfl, hc2⟩)
      | (go_at_call 12; refine (KA.out w2 hc2).mono ?_; rintro e w3 ⟨rfl, hc3⟩))
    go_ret
    exact ⟨rfl, hc2.trans hc3⟩
  | true =>
    obtain ⟨hsm, _⟩ := smallW_small hy
    by_cases h300 : 300 < s.length
    · clear hv hn hM hy hsm
      go_enter Tryd.func7, Tryd.ntmps7
      go_wp2_with (first
        | (go_at_call 11; refine hsmall.mono ?_; rintro e w2 ⟨rfl, hc2⟩)
        | (go_at_call 12; refine (KA.out w2 hc2).mono ?_; rintro e w3 ⟨rfl, hc3⟩))
      go_ret
      exact ⟨rfl, hc2.trans hc3⟩
    · have h3 : s.length ≤ 300 := by omega
      have KF : Hid (∀ W u, Calm w W → vfV v s = u → Calls Tryd.prog 13 #[.slice A n c, .string (bs s)] W fun e w' => e = .returned u ∧ Calm W w') := fun W u hW hu => vfwd_v v s u A n c W h3 (hM.calm hW) (hv.calm hW) hsm hn hu
      have KB : Hid (∀ W u, Calm w W → vfV (turnV v) s = u → Calls Tryd.prog 21 #[.slice A n c, .string (bs s)] W fun e w' => e = .returned u ∧ Calm W w') := fun W u hW hu => vbwd_v v s u A n c W h3 (hM.calm hW) (hv.calm hW) hsm hn hu
      have KB2 : Hid (∀ W t, Calm w W → vfwd v s = some t → Calls Tryd.prog 21 #[.slice A n c, .string (bs t)] W fun e w' => e = .returned (.tuple #[.string (bs s), .bool true]) ∧ Calm W w') := fun W t hW ht => by
        have hb := vfwd_back ht
        rw [vbwd] at hb
        exact vbwd_c v t _ A n c W (by have := vfwd_len hsm h3 ht; omega) (hM.calm hW) (hv.calm hW) hsm hn (hT_of hb (by omega)) (vfV_some hb)
      have KF2 : Hid (∀ W t, Calm w W → vfwd (turnV v) s = some t → Calls Tryd.prog 13 #[.slice A n c, .string (bs t)] W fun e w' => e = .returned (.tuple #[.string (bs s), .bool true]) ∧ Calm W w') := fun W t hW ht => by
        have hb := vbwd_back (v := v) ht
        rw [← vfV_some hb]
        exact vfwd_c v t A n c W (by have := vfwd_len (turn_small hsm) h3 ht; omega) (hM.calm hW) (hv.calm hW) hsm hn (hT_of hb (by omega))
      clear hv hn hM hy hsm hs
      rcases hf : vfwd v s with _ | t
      · have K1 := fun W hW => KF.out W _ hW (vfV_no hf)
        unfold noV at K1
        clear KF KB2 hf
        rcases hg : vfwd (turnV v) s with _ | t2
        · have K2 := fun W hW => KB.out W _ hW (vfV_no hg)
          unfold noV at K2
          clear KB KF2 hg
          go_enter Tryd.func7, Tryd.ntmps7
          go_wp2_with (first
            | (go_at_call 11; refine hsmall.mono ?_; rintro e w2 ⟨rfl, hc2⟩)
            | (go_at_call 13; refine (K1 w2 hc2).mono ?_; rintro e w3 ⟨rfl, hc3⟩)
            | (go_at_call 21; refine (K2 w3 (hc2.trans hc3)).mono ?_; rintro e w4 ⟨rfl, hc4⟩)
            | (go_at_call 12; refine (KA.out w4 (hc2.trans (hc3.trans hc4))).mono ?_; rintro e w5 ⟨rfl, hc5⟩))
          go_ret
          exact ⟨rfl, hc2.trans (hc3.trans (hc4.trans hc5))⟩
        · have K2 := fun W hW => KB.out W _ hW (vfV_some hg)
          have K3 := fun W hW => KF2.out W t2 hW hg
          clear KB KF2 hg
          go_enter Tryd.func7, Tryd.ntmps7
          go_wp2_with (go_at_call 11; refine hsmall.mono ?_; rintro e w2 ⟨rfl, hc2⟩)
          refine (K1 w2 hc2).mono ?_
          rintro e w3 ⟨rfl, hc3⟩
          go_wp2_with fail
          refine (K2 w3 (hc2.trans hc3)).mono ?_
          rintro e w4 ⟨rfl, hc4⟩
          go_wp2_with fail
          refine (K3 w4 (hc2.trans (hc3.trans hc4))).mono ?_
          rintro e w5 ⟨rfl, hc5⟩
          go_wp2_with (go_at_call 12; refine (KA.out w5 (hc2.trans (hc3.trans (hc4.trans hc5)))).mono ?_; rintro e w6 ⟨rfl, hc6⟩)
          go_ret
          exact ⟨rfl, hc2.trans (hc3.trans (hc4.trans (hc5.trans hc6)))⟩
      · have K1 := fun W hW => KF.out W _ hW (vfV_some hf)
        have K4 := fun W hW => KB2.out W t hW hf
        clear KF KB2 hf
        rcases hg : vfwd (turnV v) s with _ | t2
        · have K2 := fun W hW => KB.out W _ hW (vfV_no hg)
          unfold noV at K2
          clear KB KF2 hg
          go_enter Tryd.func7, Tryd.ntmps7
          go_wp2_with (go_at_call 11; refine hsmall.mono ?_; rintro e w2 ⟨rfl, hc2⟩)
          refine (K1 w2 hc2).mono ?_
          rintro e w3 ⟨rfl, hc3⟩
          go_wp2_with fail
          refine (K4 w3 (hc2.trans hc3)).mono ?_
          rintro e w4 ⟨rfl, hc4⟩
          go_wp2_with fail
          refine (K2 w4 (hc2.trans (hc3.trans hc4))).mono ?_
          rintro e w5 ⟨rfl, hc5⟩
          go_wp2_with (go_at_call 12; refine (KA.out w5 (hc2.trans (hc3.trans (hc4.trans hc5)))).mono ?_; rintro e w6 ⟨rfl, hc6⟩)
          go_ret
          exact ⟨rfl, hc2.trans (hc3.trans (hc4.trans (hc5.trans hc6)))⟩
        · have K2 := fun W hW => KB.out W _ hW (vfV_some hg)
          have K3 := fun W hW => KF2.out W t2 hW hg
          clear KB KF2 hg
          go_enter Tryd.func7, Tryd.ntmps7
          go_wp2_with (go_at_call 11; refine hsmall.mono ?_; rintro e w2 ⟨rfl, hc2⟩)
          refine (K1 w2 hc2).mono ?_
          rintro e w3 ⟨rfl, hc3⟩
          go_wp2_with fail
          refine (K4 w3 (hc2.trans hc3)).mono ?_
          rintro e w4 ⟨rfl, hc4⟩
          go_wp2_with fail
          refine (K2 w4 (hc2.trans (hc3.trans hc4))).mono ?_
          rintro e w5 ⟨rfl, hc5⟩
          go_wp2_with fail
          refine (K3 w5 (hc2.trans (hc3.trans (hc4.trans hc5)))).mono ?_
          rintro e w6 ⟨rfl, hc6⟩
          go_wp2_with (go_at_call 12; refine (KA.out w6 (hc2.trans (hc3.trans (hc4.trans (hc5.trans hc6))))).mono ?_; rintro e w7 ⟨rfl, hc7⟩)
          go_ret
          exact ⟨rfl, hc2.trans (hc3.trans (hc4.trans (hc5.trans (hc6.trans hc7))))⟩
end Go.Proofs.YtoaelfdkamgdaaaDoor
