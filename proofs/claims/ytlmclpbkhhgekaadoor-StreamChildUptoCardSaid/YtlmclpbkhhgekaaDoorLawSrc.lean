/- The law StreamSources: its walk. -/
import Derived.Test.YtlmclpbkhhgekaaDoorAwakeS
import Derived.Test.YtlmclpbkhhgekaaDoorStrLaw
set_option linter.unusedVariables false
set_option linter.unusedSimpArgs false
namespace Go.Proofs.YtlmclpbkhhgekaaDoor
open Go Go.RowKit Sy

theorem locE_bad {ss : List Strm} {nm s : Str} {x : Int} (h : readyE ss nm = x) (hx : x ≠ 0) : locE ss nm s = (0, [], x) := by
  subst h
  rw [locE, if_neg hx]
theorem locE_ok {ss : List Strm} {nm : Str} (h : readyE ss nm = 0) : ∃ i, Sy.Good ss ∧ findI ss nm = some i ∧ i < ss.length ∧ ∀ s, locE ss nm s = ((locI ss i s).1, (locI ss i s).2, 0) := by
  have h0 : (strErr ss).2 = 0 := Classical.byContradiction fun hne => by
    rw [ready_bad hne] at h
    exact hne h
  rcases hf : findI ss nm with _ | i
  · rw [ready_none h0 hf] at h
    cases h
  · refine ⟨i, good_iff.1 h0, rfl, findI_lt hf, fun s => ?_⟩
    rw [locE, if_pos h, hf]
    rfl
/-- What a stream sees lies below "//view". -/
theorem locI_under {ss : List Strm} {i : Nat} {s : Str} (h : (locI ss i s).1 ≠ 0) : underV s = true ∧ locI ss i s = see ss i s := by
  unfold locI at h ⊢
  by_cases hu : underV s = true
  · rw [if_pos hu]
    exact ⟨hu, rfl⟩
  · rw [if_neg hu] at h
    exact absurd rfl h
theorem locI_sources {ss : List Strm} (h : Sy.Good ss) {i : Nat} (hi : i < ss.length) {a b : Str} (h1 : (locI ss i a).1 ≠ 0) (h2 : (locI ss i b).1 ≠ 0) (he : (locI ss i a).2 = (locI ss i b).2) : a = b := by
  obtain ⟨u1, e1⟩ := locI_under h1
  obtain ⟨u2, e2⟩ := locI_under h2
  rw [e1] at h1 he
  rw [e2] at h2 he
  exact sources h hi u1 u2 h1 h2 he

set_option maxRecDepth 100000 in
set_option maxHeartbeats 4000000 in
theorem strSources_c (ss : List Strm) (nm s1 s2 : Str) (A : Option Addr) (n c : Nat) (w : World) (hv : StrmsU w A ss) (hn : ss.length = n) (hnm : nm.length ≤ 1048576) (hl1 : s1.length ≤ 1048576) (hl2 : s2.length ≤ 1048576) (hM : MaxL w) :
    Calls Tryd.prog 3 #[.slice A n c, .string (bs nm), .string (bs s1), .string (bs s2)] w fun e w' => e = .returned (.bool true) ∧ Calm w w' := by
  obtain ⟨y, hy⟩ : ∃ y, smallS ss = y := ⟨_, rfl⟩
  have hsmall := smallS_c ss y A n c w hv hn hy
  have hlen := hv.len
  rw [hn] at hlen
  have hz1 := bs_size s1
  have hz2 := bs_size s2
  have KA : Hid (∀ W, Calm w W → Calls Tryd.prog 10 #[] W fun e w' => e = .returned (.bool true) ∧ Calm W w') := fun W hW => awakeS_c W (hM.calm hW)
  cases y with
  | false =>
    clear hv hn hM hy
    go_enter Tryd.func3, Tryd.ntmps3
    go_wp2_with (first
      | (go_at_call 9; refine hsmall.mono ?_; rintro e w2 ⟨rfl, hc2⟩)
      | (go_at_call 10; refine (KA.out w2 hc2).mono ?_; rintro e w3 ⟨rfl, hc3⟩))
    go_ret
    exact ⟨rfl, hc2.trans hc3⟩
  | true =>
    obtain ⟨hsm, _⟩ := smallS_small hy
    by_cases h1 : 200 < s1.length
    · clear hv hn hM hy hsm
      go_enter Tryd.func3, Tryd.ntmps3
      go_wp2_with (first
        | (go_at_call 9; refine hsmall.mono ?_; rintro e w2 ⟨rfl, hc2⟩)
        | (go_at_call 10; refine (KA.out w2 hc2).mono ?_; rintro e w3 ⟨rfl, hc3⟩))
      go_ret
      exact ⟨rfl, hc2.trans hc3⟩
    · by_cases h2 : 200 < s2.length
      · clear hv hn hM hy hsm
        go_enter Tryd.func3, Tryd.ntmps3
        go_wp2_with (first
          | (go_at_call 9; refine hsmall.mono ?_; rintro e w2 ⟨rfl, hc2⟩)
          | (go_at_call 10; refine (KA.out w2 hc2).mono ?_; rintro e w3 ⟨rfl, hc3⟩))
        go_ret
        exact ⟨rfl, hc2.trans hc3⟩
      · have K1 : Hid (∀ W, Calm w W → Calls Tryd.prog 11 #[.slice A n c, .string (bs nm), .string (bs s1)] W fun e w' => e = .returned (.tuple #[.int .i64 (locE ss nm s1).1, .string (bs (locE ss nm s1).2.1), .int .i64 (locE ss nm s1).2.2]) ∧ Calm W w') := fun W hW => locate_c ss nm s1 A n c W (hv.calm hW) hn hnm (by omega) hsm (hM.calm hW)
        have K2 : Hid (∀ W, Calm w W → Calls Tryd.prog 11 #[.slice A n c, .string (bs nm), .string (bs s2)] W fun e w' => e = .returned (.tuple #[.int .i64 (locE ss nm s2).1, .string (bs (locE ss nm s2).2.1), .int .i64 (locE ss nm s2).2.2]) ∧ Calm W w') := fun W hW => locate_c ss nm s2 A n c W (hv.calm hW) hn hnm (by omega) hsm (hM.calm hW)
        have HN := Lib.hid hn
        clear hv hn hM hy hsm hlen
        obtain ⟨x, hx⟩ : ∃ x, readyE ss nm = x := ⟨_, rfl⟩
        by_cases hx0 : x = 0
        · subst hx0
          obtain ⟨i, hg, hf, hi, hE⟩ := locE_ok hx
          rw [hE s1] at K1
          rw [hE s2] at K2
          have HS : Hid ((locI ss i s1).1 ≠ 0 → (locI ss i s2).1 ≠ 0 → (locI ss i s1).2 = (locI ss i s2).2 → s1 = s2) := fun a b c => locI_sources hg hi a b c
          obtain ⟨k, hk⟩ : ∃ k, (locI ss i s1).1 = k := ⟨_, rfl⟩
          obtain ⟨s, hs⟩ : ∃ s, (locI ss i s1).2 = s := ⟨_, rfl⟩
          obtain ⟨m, hm⟩ : ∃ m, (locI ss i s2).1 = m := ⟨_, rfl⟩
          obtain ⟨t, ht⟩ : ∃ t, (locI ss i s2).2 = t := ⟨_, rfl⟩
          rw [hk, hs] at K1 HS
          rw [hm, ht] at K2 HS
          clear hk hs hm ht hE hg hf hi hx
          simp only at K1 K2
          by_cases hk0 : k = 0
          · subst hk0
            go_enter Tryd.func3, Tryd.ntmps3
            go_wp2_with (go_at_call 9; refine hsmall.mono ?_; rintro e w2 ⟨rfl, hc2⟩)
            refine (K1.out w2 hc2).mono ?_
            rintro e w3 ⟨rfl, hc3⟩
            go_wp2_with fail
            refine (K2.out w3 (hc2.trans hc3)).mono ?_
            rintro e w4 ⟨rfl, hc4⟩
            go_wp2_with (go_at_call 10; refine (KA.out w4 (hc2.trans (hc3.trans hc4))).mono ?_; rintro e w5 ⟨rfl, hc5⟩)
            go_ret
            exact ⟨rfl, hc2.trans (hc3.trans (hc4.trans hc5))⟩
          · have hkb : (k == 0) = false := by simpa using hk0
            by_cases hm0 : m = 0
            · subst hm0
              clear hk0
              go_enter Tryd.func3, Tryd.ntmps3
              go_wp2_with (go_at_call 9; refine hsmall.mono ?_; rintro e w2 ⟨rfl, hc2⟩)
              refine (K1.out w2 hc2).mono ?_
              rintro e w3 ⟨rfl, hc3⟩
              go_wp2_with fail
              refine (K2.out w3 (hc2.trans hc3)).mono ?_
              rintro e w4 ⟨rfl, hc4⟩
              go_wp2_with (go_at_call 10; refine (KA.out w4 (hc2.trans (hc3.trans hc4))).mono ?_; rintro e w5 ⟨rfl, hc5⟩)
              go_ret
              exact ⟨rfl, hc2.trans (hc3.trans (hc4.trans hc5))⟩
            · have hmb : (m == 0) = false := by simpa using hm0
              by_cases e : s = t
              · have e2 := HS.out hk0 hm0 e
                subst e
                subst e2
                clear hk0 hm0 HS
                go_enter Tryd.func3, Tryd.ntmps3
                go_wp2_with (go_at_call 9; refine hsmall.mono ?_; rintro e w2 ⟨rfl, hc2⟩)
                refine (K1.out w2 hc2).mono ?_
                rintro e w3 ⟨rfl, hc3⟩
                go_wp2_with fail
                refine (K2.out w3 (hc2.trans hc3)).mono ?_
                rintro e w4 ⟨rfl, hc4⟩
                go_wp2_with (go_at_call 10; refine (KA.out w4 (hc2.trans (hc3.trans hc4))).mono ?_; rintro e w5 ⟨rfl, hc5⟩)
                go_ret
                exact ⟨rfl, hc2.trans (hc3.trans (hc4.trans hc5))⟩
              · have hst : (s == t) = false := by simpa using e
                clear hk0 hm0 HS e
                go_enter Tryd.func3, Tryd.ntmps3
                go_wp2_with (go_at_call 9; refine hsmall.mono ?_; rintro e w2 ⟨rfl, hc2⟩)
                refine (K1.out w2 hc2).mono ?_
                rintro e w3 ⟨rfl, hc3⟩
                go_wp2_with fail
                refine (K2.out w3 (hc2.trans hc3)).mono ?_
                rintro e w4 ⟨rfl, hc4⟩
                go_wp2_with (go_at_call 10; refine (KA.out w4 (hc2.trans (hc3.trans hc4))).mono ?_; rintro e w5 ⟨rfl, hc5⟩)
                go_ret
                exact ⟨rfl, hc2.trans (hc3.trans (hc4.trans hc5))⟩
        · rw [locE_bad hx hx0] at K1 K2
          have hxb : (x != 0) = true := by simpa using hx0
          simp only at K1 K2
          clear hx hx0
          go_enter Tryd.func3, Tryd.ntmps3
          go_wp2_with (go_at_call 9; refine hsmall.mono ?_; rintro e w2 ⟨rfl, hc2⟩)
          refine (K1.out w2 hc2).mono ?_
          rintro e w3 ⟨rfl, hc3⟩
          go_wp2_with fail
          refine (K2.out w3 (hc2.trans hc3)).mono ?_
          rintro e w4 ⟨rfl, hc4⟩
          go_wp2_with (go_at_call 10; refine (KA.out w4 (hc2.trans (hc3.trans hc4))).mono ?_; rintro e w5 ⟨rfl, hc5⟩)
          go_ret
          exact ⟨rfl, hc2.trans (hc3.trans (hc4.trans hc5))⟩
end Go.Proofs.YtlmclpbkhhgekaaDoor
