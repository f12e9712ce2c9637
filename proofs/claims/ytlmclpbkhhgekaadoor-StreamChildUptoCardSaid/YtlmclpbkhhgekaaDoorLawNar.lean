/- The law StreamNarrows: its walk. -/
import Derived.Test.YtlmclpbkhhgekaaDoorLawSrc
import Derived.Test.YtlmclpbkhhgekaaDoorAncs
set_option linter.unusedVariables false
set_option linter.unusedSimpArgs false
namespace Go.Proofs.YtlmclpbkhhgekaaDoor
open Go Go.RowKit Sy

theorem ready_good {ss : List Strm} (h : Sy.Good ss) {i : Nat} (hi : i < ss.length) : readyE ss (strm ss i).name = 0 := ready_ok (good_iff.2 h) (h.find hi)
theorem locE_good {ss : List Strm} (h : Sy.Good ss) {i : Nat} (hi : i < ss.length) (s : Str) : locE ss (strm ss i).name s = ((locI ss i s).1, (locI ss i s).2, 0) := by
  rw [locE, if_pos (ready_good h hi), h.find hi]
  rfl
theorem above_head {ss : List Strm} (h : Sy.Good ss) {i p : Nat} {r : List Nat} (ha : above ss i = p :: r) : parentI ss i = some p := by
  rcases hp : parentI ss i with _ | q
  · rw [h.none hp] at ha
    cases ha
  · rw [h.some hp] at ha
    cases ha
    rfl
theorem locI_kind {ss : List Strm} (h : Sy.Good ss) {i : Nat} (hi : i < ss.length) (c : Str) : (locI ss i c).1 = 0 ∨ (locI ss i c).1 = 1 ∨ (locI ss i c).1 = 2 ∨ (locI ss i c).1 = 3 := by
  unfold locI
  by_cases hu : underV c = true
  · rw [if_pos hu]
    exact see_kind h hi c
  · rw [if_neg hu]
    exact .inl rfl
theorem locI_narrows {ss : List Strm} (h : Sy.Good ss) {i p : Nat} (hp : parentI ss i = some p) (c : Str) :
    ((locI ss p c).1 = 0 → (locI ss i c).1 = 0) ∧ ((locI ss i c).1 = 1 → (locI ss p c).1 = 1) ∧ ((locI ss p c).1 = 3 → (locI ss i c).1 = 0 ∨ ((locI ss i c).1 = 3 ∧ (locI ss i c).2 = (locI ss p c).2)) := by
  unfold locI
  by_cases hu : underV c = true
  · rw [if_pos hu, if_pos hu]
    exact narrows h hp c
  · rw [if_neg hu, if_neg hu]
    exact ⟨fun _ => rfl, fun e => e, fun e => .inl rfl⟩

set_option maxRecDepth 100000 in
set_option maxHeartbeats 8000000 in
theorem strNarrows_c (ss : List Strm) (nm s1 : Str) (A : Option Addr) (n c : Nat) (w : World) (hv : StrmsU w A ss) (hn : ss.length = n) (hnm : nm.length ≤ 1048576) (hl1 : s1.length ≤ 1048576) (hM : MaxL w) :
    Calls Tryd.prog 7 #[.slice A n c, .string (bs nm), .string (bs s1)] w fun e w' => e = .returned (.bool true) ∧ Calm w w' := by
  obtain ⟨y, hy⟩ : ∃ y, smallS ss = y := ⟨_, rfl⟩
  have hsmall := smallS_c ss y A n c w hv hn hy
  have hlen := hv.len
  rw [hn] at hlen
  have hz1 := bs_size s1
  have KA : Hid (∀ W, Calm w W → Calls Tryd.prog 10 #[] W fun e w' => e = .returned (.bool true) ∧ Calm W w') := fun W hW => awakeS_c W (hM.calm hW)
  cases y with
  | false =>
    clear hv hn hM hy
    go_enter Tryd.func7, Tryd.ntmps7
    go_wp2_with (first
      | (go_at_call 9; refine hsmall.mono ?_; rintro e w2 ⟨rfl, hc2⟩)
      | (go_at_call 10; refine (KA.out w2 hc2).mono ?_; rintro e w3 ⟨rfl, hc3⟩))
    go_ret
    exact ⟨rfl, hc2.trans hc3⟩
  | true =>
    obtain ⟨hsm, _⟩ := smallS_small hy
    by_cases h1 : 200 < s1.length
    · clear hv hn hM hy hsm
      go_enter Tryd.func7, Tryd.ntmps7
      go_wp2_with (first
        | (go_at_call 9; refine hsmall.mono ?_; rintro e w2 ⟨rfl, hc2⟩)
        | (go_at_call 10; refine (KA.out w2 hc2).mono ?_; rintro e w3 ⟨rfl, hc3⟩))
      go_ret
      exact ⟨rfl, hc2.trans hc3⟩
    · have KL : Hid (∀ W x, Calm w W → x.length ≤ 1048576 → Calls Tryd.prog 11 #[.slice A n c, .string (bs x), .string (bs s1)] W fun e w' => e = .returned (.tuple #[.int .i64 (locE ss x s1).1, .string (bs (locE ss x s1).2.1), .int .i64 (locE ss x s1).2.2]) ∧ Calm W w') := fun W x hW hx => locate_c ss x s1 A n c W (hv.calm hW) hn hx (by omega) hsm (hM.calm hW)
      have KN : Hid (∀ W, Calm w W → Calls Tryd.prog 17 #[.slice A n c, .string (bs nm)] W fun e w' => AncEnd ss nm e w' ∧ Calm W w') := fun W hW => anc_c ss nm A n c W (hv.calm hW) hn hnm
      have HN := Lib.hid hn
      have HNm := Lib.hid hnm
      clear hv hn hM hy hsm hlen hnm
      go_enter Tryd.func7, Tryd.ntmps7
      go_wp2_with (go_at_call 9; refine hsmall.mono ?_; rintro e w2 ⟨rfl, hc2⟩)
      refine (KN.out w2 hc2).mono ?_
      rintro e w3 ⟨hend, hc3⟩
      have HC3 := Lib.hid (hc2.trans hc3)
      rcases hend with ⟨x, hx0, hr, rfl⟩ | ⟨i, VA, vc, hr, hg, hfi, rfl, hu, _⟩
      · have hxb : (x != 0) = true := by simpa using hx0
        clear hx0 hr
        go_wp2_with (go_at_call 10; refine (KA.out w3 HC3.out).mono ?_; rintro e w4 ⟨rfl, hc4⟩)
        go_ret
        exact ⟨rfl, HC3.out.trans hc4⟩
      · have hi : i < ss.length := findI_lt hfi
        rcases ha : above ss i with _ | ⟨p, r⟩
        · have e0 : (ancsOf ss i).length = 0 := by unfold ancsOf; rw [ha]; rfl
          rw [e0]
          clear hu ha e0 hr hg hfi
          go_wp2_with (go_at_call 10; refine (KA.out w3 HC3.out).mono ?_; rintro e w4 ⟨rfl, hc4⟩)
          go_ret
          exact ⟨rfl, HC3.out.trans hc4⟩
        · have hpar := above_head hg ha
          have hpl := parentI_lt hpar
          have hpn : (strm ss p).name.length ≤ 1048576 := by have := (ownErr_zero (hg.own p hpl)).2.1; omega
          obtain ⟨H1, H2, H3⟩ := locI_narrows hg hpar s1
          have hki := locI_kind hg hi s1
          have hkp := locI_kind hg hpl s1
          have K1 : Hid (∀ W, Calm w W → Calls Tryd.prog 11 #[.slice A n c, .string (bs nm), .string (bs s1)] W fun e w' => e = .returned (.tuple #[.int .i64 (locI ss i s1).1, .string (bs (locI ss i s1).2), .int .i64 0]) ∧ Calm W w') := fun W hW => by
            obtain ⟨i', _, hf', _, hE⟩ := locE_ok hr
            rw [hfi] at hf'
            cases hf'
            have := KL.out W nm hW HNm.out
            rw [hE s1] at this
            exact this
          have K2 : Hid (∀ W, Calm w W → Calls Tryd.prog 11 #[.slice A n c, .string (bs (strm ss p).name), .string (bs s1)] W fun e w' => e = .returned (.tuple #[.int .i64 (locI ss p s1).1, .string (bs (locI ss p s1).2), .int .i64 0]) ∧ Calm W w') := fun W hW => by
            have := KL.out W _ hW hpn
            rw [locE_good hg hpl] at this
            exact this
          have hlp : 0 < (ancsOf ss i).length := by unfold ancsOf; rw [ha]; simp
          obtain ⟨b, o, z, rfl, hb, hz, _, hcell⟩ := hu.get hlp
          have hz2 : (strm ss p).name = z := by
            unfold ancsOf at hz
            rw [ha] at hz
            simpa using hz
          rw [Nat.add_zero] at hcell
          obtain ⟨m, hm⟩ : ∃ m, (ancsOf ss i).length = m := ⟨_, rfl⟩
          rw [hm] at hlp ⊢
          have hm2 : m ≤ 1048576 := by rw [← hm]; exact hu.len
          rw [hz2] at K2
          obtain ⟨k, hk⟩ : ∃ k, (locI ss i s1).1 = k := ⟨_, rfl⟩
          obtain ⟨s, hs⟩ : ∃ s, (locI ss i s1).2 = s := ⟨_, rfl⟩
          obtain ⟨up, hup⟩ : ∃ up, (locI ss p s1).1 = up := ⟨_, rfl⟩
          obtain ⟨t, ht⟩ : ∃ t, (locI ss p s1).2 = t := ⟨_, rfl⟩
          rw [hk] at H1 H2 H3 hki
          rw [hup] at H1 H2 H3 hkp
          rw [hs, ht] at H3
          rw [hk, hs] at K1
          rw [hup, ht] at K2
          clear hk hs hup ht hz hz2 hm hu ha hpar hr hg hfi hi hpl hpn KL
          go_wp2_with fail
          refine (K1.out w3 HC3.out).mono ?_
          rintro e w4 ⟨rfl, hc4⟩
          have hcell4 := Calm.at_ hc4 hcell hb
          go_wp2_with fail
          refine (K2.out w4 (HC3.out.trans hc4)).mono ?_
          rintro e w5 ⟨rfl, hc5⟩
          have HC5 := Lib.hid (HC3.out.trans (hc4.trans hc5))
          have HH := Lib.hid (And.intro H1 (And.intro H2 H3))
          clear hcell hcell4 hc4 hc5 H1 H2 H3 K1 K2
          rcases hkp with rfl | rfl | rfl | rfl <;> rcases hki with rfl | rfl | rfl | rfl
          all_goals first
            | (exfalso; have := HH.out.1 rfl; omega)
            | (exfalso; have := HH.out.2.1 rfl; omega)
            | (exfalso; rcases HH.out.2.2 rfl with h | ⟨h, _⟩ <;> omega)
            | skip
          all_goals first
            | (have hst : s = t := by (rcases HH.out.2.2 rfl with h | ⟨_, h⟩; (exfalso; omega); exact h)
               subst hst)
            | skip
          all_goals
            go_wp2_with (go_at_call 10; refine (KA.out w5 HC5.out).mono ?_; rintro e w6 ⟨rfl, hc6⟩)
            go_ret
            exact ⟨rfl, HC5.out.trans hc6⟩
end Go.Proofs.YtlmclpbkhhgekaaDoor
