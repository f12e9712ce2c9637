/- The laws StreamChecks and StreamAncestors: their walks. -/
import Derived.Test.YtlmclpbkhhgekaaDoorRChk
import Derived.Test.YtlmclpbkhhgekaaDoorLawSrc
import Derived.Test.YtlmclpbkhhgekaaDoorAncs
set_option linter.unusedVariables false
set_option linter.unusedSimpArgs false
namespace Go.Proofs.YtlmclpbkhhgekaaDoor
open Go Go.RowKit Sy

set_option maxRecDepth 100000 in
set_option maxHeartbeats 4000000 in
theorem strChecks_c (ss : List Strm) (A : Option Addr) (n c : Nat) (w : World) (hv : StrmsU w A ss) (hn : ss.length = n) (hM : MaxL w) :
    Calls Tryd.prog 4 #[.slice A n c] w fun e w' => e = .returned (.bool true) ∧ Calm w w' := by
  obtain ⟨y, hy⟩ : ∃ y, smallS ss = y := ⟨_, rfl⟩
  have hsmall := smallS_c ss y A n c w hv hn hy
  have hlen := hv.len
  rw [hn] at hlen
  have KA : Hid (∀ W, Calm w W → Calls Tryd.prog 10 #[] W fun e w' => e = .returned (.bool true) ∧ Calm W w') := fun W hW => awakeS_c W (hM.calm hW)
  cases y with
  | false =>
    clear hv hn hM hy
    go_enter Tryd.func4, Tryd.ntmps4
    go_wp2_with (first
      | (go_at_call 9; refine hsmall.mono ?_; rintro e w2 ⟨rfl, hc2⟩)
      | (go_at_call 10; refine (KA.out w2 hc2).mono ?_; rintro e w3 ⟨rfl, hc3⟩))
    go_ret
    exact ⟨rfl, hc2.trans hc3⟩
  | true =>
    obtain ⟨hsm, h20⟩ := smallS_small hy
    rw [hn] at h20
    have K1 : Hid (∀ W, Calm w W → Calls Tryd.prog 12 #[.slice A n c] W fun e w' => e = .returned (.tuple #[.int .i64 ((strErr ss).1 : Nat), .int .i64 (strErr ss).2]) ∧ Calm W w') := fun W hW => strcheck_c ss A n c W (hv.calm hW) hn
    have K2 : Hid (∀ W, Calm w W → Calls Tryd.prog 13 #[.slice A n c] W fun e w' => e = .returned (.tuple #[.int .i64 ((strErr ss).1 : Nat), .int .i64 (strErr ss).2]) ∧ Calm W w') := fun W hW => rcheck8_c ss A n c W (hv.calm hW) hn (by omega) hsm
    clear hv hn hM hy hsm h20
    obtain ⟨a, ha⟩ : ∃ a, (strErr ss).1 = a := ⟨_, rfl⟩
    obtain ⟨x, hx⟩ : ∃ x, (strErr ss).2 = x := ⟨_, rfl⟩
    rw [ha, hx] at K1 K2
    clear ha hx
    go_enter Tryd.func4, Tryd.ntmps4
    go_wp2_with (first
      | (go_at_call 9; refine hsmall.mono ?_; rintro e w2 ⟨rfl, hc2⟩)
      | (go_at_call 12; refine (K1.out w2 hc2).mono ?_; rintro e w3 ⟨rfl, hc3⟩)
      | (go_at_call 13; refine (K2.out w3 (hc2.trans hc3)).mono ?_; rintro e w4 ⟨rfl, hc4⟩)
      | (go_at_call 10; refine (KA.out w4 (hc2.trans (hc3.trans hc4))).mono ?_; rintro e w5 ⟨rfl, hc5⟩))
    go_ret
    exact ⟨rfl, hc2.trans (hc3.trans (hc4.trans hc5))⟩

set_option maxHeartbeats 2000000 in
theorem ready_c (ss : List Strm) (nm : Str) (A : Option Addr) (n c : Nat) (w : World) (hs : StrmsU w A ss) (hn : ss.length = n) (hle : n ≤ 1000) (hsm : SmallSS ss) :
    Calls Tryd.prog 18 #[.slice A n c, .string (bs nm)] w fun e w' => e = .returned (.int .i64 (readyE ss nm)) ∧ Calm w w' := by
  have K1 := rcheck8_c ss A n c w hs hn hle hsm
  have K2 : Hid (∀ W, Calm w W → Calls Tryd.prog 27 #[.slice A n c, .string (bs nm)] W fun e w' => e = .returned (.int .i64 (oZ (findI ss nm))) ∧ Calm W w') := fun W hW => rfind_c ss nm A n c W (hs.calm hW) hn
  have hE : Hid (readyE ss nm = if (strErr ss).2 ≠ 0 then (strErr ss).2 else if findI ss nm = none then 86 else 0) := rfl
  obtain ⟨a, ha⟩ : ∃ a, (strErr ss).1 = a := ⟨_, rfl⟩
  obtain ⟨x, hx⟩ : ∃ x, (strErr ss).2 = x := ⟨_, rfl⟩
  rw [ha, hx] at K1
  rw [hx] at hE
  clear ha hx hs hn hsm
  by_cases hx0 : x = 0
  · subst hx0
    obtain ⟨o, ho⟩ : ∃ o, findI ss nm = o := ⟨_, rfl⟩
    obtain ⟨z, hz⟩ : ∃ z, oZ o = z := ⟨_, rfl⟩
    rw [ho, hz] at K2
    rw [ho] at hE
    have HZ := Lib.hid hz
    clear ho hz
    cases o with
    | none =>
      obtain rfl : -1 = z := HZ.out
      have hE2 : Hid (readyE ss nm = 86) := hE
      clear hE
      go_enter Tryd.func18, Tryd.ntmps18
      go_wp2_with (first
        | (go_at_call 13; refine K1.mono ?_; rintro e w2 ⟨rfl, hc2⟩)
        | (go_at_call 27; refine (K2.out w2 hc2).mono ?_; rintro e w3 ⟨rfl, hc3⟩))
      go_ret
      exact ⟨ret_int hE2.out.symm, hc2.trans hc3⟩
    | some j =>
      obtain rfl : ((j : Nat) : Int) = z := HZ.out
      have hE2 : Hid (readyE ss nm = 0) := hE
      clear hE
      go_enter Tryd.func18, Tryd.ntmps18
      go_wp2_with (first
        | (go_at_call 13; refine K1.mono ?_; rintro e w2 ⟨rfl, hc2⟩)
        | (go_at_call 27; refine (K2.out w2 hc2).mono ?_; rintro e w3 ⟨rfl, hc3⟩))
      go_ret
      exact ⟨ret_int hE2.out.symm, hc2.trans hc3⟩
  · have hxb : (x != 0) = true := by simpa using hx0
    have hE2 : Hid (readyE ss nm = x) := by show _ = _; rw [hE.out, if_pos hx0]
    clear hE hx0
    go_enter Tryd.func18, Tryd.ntmps18
    go_wp2_with (go_at_call 13; refine K1.mono ?_; rintro e w2 ⟨rfl, hc2⟩)
    go_ret
    exact ⟨ret_int hE2.out.symm, hc2⟩

theorem join_u (ls : List Str) (A : Option Addr) (n c : Nat) (w : World) (h : StrsU w A ls) (hc : n ≤ c) (hn : ls.length = n) (hl : ls.length ≤ 20000) (hK : ∀ l ∈ ls, l.length ≤ 20000) :
    Calls Tryd.prog 19 #[.slice A n c, .string ⟨#[47]⟩] w fun e w' => e = .returned (.string (bs (Lib.join ls [47]))) ∧ Calm w w' := by
  rcases Nat.eq_zero_or_pos n with h0 | h0
  · subst h0
    have : ls = [] := List.eq_nil_of_length_eq_zero hn
    subst this
    exact (Tryd.strings_Join_none A c ⟨#[47]⟩ w).mono fun e w' ⟨h1, h2⟩ => ⟨h1, by rw [h2]; exact Calm.refl w⟩
  · subst hn
    obtain ⟨b, o, rfl, hb, hk⟩ := h.at_ h0
    exact join_off_c ls b o c w hk hb hc hl hK

set_option maxRecDepth 100000 in
set_option maxHeartbeats 4000000 in
theorem strAncs_c (ss : List Strm) (nm : Str) (A : Option Addr) (n c : Nat) (w : World) (hv : StrmsU w A ss) (hn : ss.length = n) (hnm : nm.length ≤ 1048576) (hM : MaxL w) :
    Calls Tryd.prog 8 #[.slice A n c, .string (bs nm)] w fun e w' => e = .returned (.bool true) ∧ Calm w w' := by
  obtain ⟨y, hy⟩ : ∃ y, smallS ss = y := ⟨_, rfl⟩
  have hsmall := smallS_c ss y A n c w hv hn hy
  have hlen := hv.len
  rw [hn] at hlen
  have KA : Hid (∀ W, Calm w W → Calls Tryd.prog 10 #[] W fun e w' => e = .returned (.bool true) ∧ Calm W w') := fun W hW => awakeS_c W (hM.calm hW)
  cases y with
  | false =>
    clear hv hn hM hy
    go_enter Tryd.func8, Tryd.ntmps8
    go_wp2_with (first
      | (go_at_call 9; refine hsmall.mono ?_; rintro e w2 ⟨rfl, hc2⟩)
      | (go_at_call 10; refine (KA.out w2 hc2).mono ?_; rintro e w3 ⟨rfl, hc3⟩))
    go_ret
    exact ⟨rfl, hc2.trans hc3⟩
  | true =>
    obtain ⟨hsm, h20⟩ := smallS_small hy
    rw [hn] at h20
    have K1 : Hid (∀ W, Calm w W → Calls Tryd.prog 17 #[.slice A n c, .string (bs nm)] W fun e w' => AncEnd ss nm e w' ∧ Calm W w') := fun W hW => anc_c ss nm A n c W (hv.calm hW) hn hnm
    have K2 : Hid (∀ W, Calm w W → Calls Tryd.prog 18 #[.slice A n c, .string (bs nm)] W fun e w' => e = .returned (.int .i64 (readyE ss nm)) ∧ Calm W w') := fun W hW => ready_c ss nm A n c W (hv.calm hW) hn (by omega) hsm
    have K3 : Hid (∀ W, Calm w W → Calls Tryd.prog 20 #[.slice A n c, .string (bs nm)] W fun e w' => NamesEnd (refAncs ss nm) e w' ∧ Calm W w') := fun W hW => ranc_c ss nm A n c W (hv.calm hW) hn (by omega)
    have HN := Lib.hid hn
    clear hv hn hM hy hsm
    go_enter Tryd.func8, Tryd.ntmps8
    go_wp2_with (go_at_call 9; refine hsmall.mono ?_; rintro e w2 ⟨rfl, hc2⟩)
    refine (K1.out w2 hc2).mono ?_
    rintro e w3 ⟨hend, hc3⟩
    rcases hend with ⟨x, hx0, hr, rfl⟩ | ⟨i, VA, vc, hr, hg, hfi, rfl, hu, hroom⟩
    · have hxb : (x != 0) = true := by simpa using hx0
      rw [hr] at K2
      clear hx0 hr
      go_wp2_with (first
        | (go_at_call 18; refine (K2.out w3 (hc2.trans hc3)).mono ?_; rintro e w4 ⟨rfl, hc4⟩)
        | (go_at_call 10; refine (KA.out w4 (hc2.trans (hc3.trans hc4))).mono ?_; rintro e w5 ⟨rfl, hc5⟩))
      go_ret
      exact ⟨rfl, hc2.trans (hc3.trans (hc4.trans hc5))⟩
    · rw [hr] at K2
      rw [refAncs_find hg.par hfi] at K3
      have hil : i < ss.length := findI_lt hfi
      obtain ⟨l, hl⟩ : ∃ l, ancsOf ss i = l := ⟨_, rfl⟩
      have hl2 : (above ss i).map (fun p => (strm ss p).name) = l := hl
      obtain ⟨m, hm⟩ : ∃ m, l.length = m := ⟨_, rfl⟩
      have hm5 : m ≤ 5 := by
        rw [← hm, ← hl2, List.length_map]
        exact hg.short hil
      have hl24 : ∀ x ∈ l, x.length ≤ 20000 := fun x hx => by
        rw [← hl2] at hx
        obtain ⟨p, hp, rfl⟩ := List.mem_map.1 hx
        have := (ownErr_zero (hg.own p (above_lt hp))).2.1
        omega
      unfold NamesEnd at K3
      rw [hl2, hm] at K3
      rw [hl, hm] at hroom ⊢
      rw [hl] at hu
      obtain ⟨J, hJ⟩ : ∃ J, Lib.join l [47] = J := ⟨_, rfl⟩
      have KJ : Hid (∀ (W : World) (A : Option Addr) (c : Nat), StrsU W A l → m ≤ c → Calls Tryd.prog 19 #[.slice A m c, .string ⟨#[47]⟩] W fun e w' => e = .returned (.string (bs J)) ∧ Calm W w') := fun W A c h1 h2 => by
        have := join_u l A m c W h1 h2 hm (by omega) hl24
        rw [hJ] at this
        exact this
      have HU := Lib.hid hu
      have HRm := Lib.hid hroom
      clear hr hg hfi hl hl2 hm hil hl24 hJ hu hroom
      go_wp2_with (go_at_call 18; refine (K2.out w3 (hc2.trans hc3)).mono ?_; rintro e w4 ⟨rfl, hc4⟩)
      refine (KJ.out w4 VA vc (HU.out.calm hc4) HRm.out).mono ?_
      rintro e w5 ⟨rfl, hc5⟩
      have hc25 := hc2.trans (hc3.trans (hc4.trans hc5))
      go_wp2_with (go_at_call 20; refine (K3.out w5 hc25).mono ?_; rintro e w6 ⟨⟨VB, vd, rfl, hub, hrb⟩, hc6⟩)
      refine (KJ.out w6 VB vd hub hrb).mono ?_
      rintro e w7 ⟨rfl, hc7⟩
      go_wp2_with (go_at_call 10; refine (KA.out w7 (hc25.trans (hc6.trans hc7))).mono ?_; rintro e w8 ⟨rfl, hc8⟩)
      go_ret
      exact ⟨rfl, hc25.trans (hc6.trans (hc7.trans hc8))⟩
end Go.Proofs.YtlmclpbkhhgekaaDoor
