/- Walks: the least component that is allowed. -/
import Derived.Test.YtdndfkoklhfffaaGreatDoorWalkL
set_option linter.unusedVariables false
set_option linter.unusedSimpArgs false
namespace Go.Proofs.YtdndfkoklhfffaaGreatDoor
open Go Go.RowKit Sy

/-- What is asked of a predicate on strings. -/
def PredS (g : Nat) (lb : Array Value) (pr : Str → Bool) (w : World) : Prop :=
  ∀ (W : World), Calm w W → ∀ (x : Str), x.length ≤ 16385 → Calls Tryz.prog g (#[.string (bs x)] ++ lb) W fun e w' => e = .returned (.bool (pr x)) ∧ Calm W w'

/-- The least component that a part allows. -/
def lcomp (part : Str) (pr : Str → Bool) : Str := if isStar part then ((starts.find? fun c => pr (c :: part.tail)).getD 43) :: part.tail else part

theorem cutStar_c (l : Str) (w : World) : Calls Tryz.prog 70 #[.string (bs l), .string ⟨#[42]⟩] w fun e w' => e = .returned (.tuple #[.string (bs (Lib.trimPrefix l [42])), .bool (isStar l)]) ∧ w = w' :=
  (Tryz.strings_CutPrefix (bs l) ⟨#[42]⟩ w).mono fun _ _ ⟨he, hw⟩ => ⟨by rw [he, bs_toList, ← hasPrefix42]; rfl, hw.symm⟩
theorem trimStar {l : Str} (h : isStar l = true) : Lib.trimPrefix l [42] = l.tail := by
  unfold Lib.trimPrefix
  rw [hasPrefix42, h]
  simp

theorem find_hit {pr : Str → Bool} {t : Str} {k : Nat} {ch : UInt8} (hk : starts[k]? = some ch) (hp : pr (ch :: t) = true) (hall : ∀ j c, j < k → starts[j]? = some c → pr (c :: t) = false) : (starts.find? fun c => pr (c :: t)).getD 43 = ch := by
  obtain ⟨hlt, he⟩ := List.getElem?_eq_some_iff.1 hk
  have : (starts.find? fun c => pr (c :: t)) = some ch := by
    rw [List.find?_eq_some_iff_getElem]
    exact ⟨hp, k, hlt, he, fun j hj => by simp [hall j _ hj (List.getElem?_eq_getElem (by omega))]⟩
  rw [this]
  rfl
theorem find_miss {pr : Str → Bool} {t : Str} (hall : ∀ j c, j < starts.length → starts[j]? = some c → pr (c :: t) = false) : (starts.find? fun c => pr (c :: t)).getD 43 = 43 := by
  have : (starts.find? fun c => pr (c :: t)) = none := by
    rw [List.find?_eq_none]
    intro c hc
    obtain ⟨j, hj, e⟩ := List.mem_iff_getElem.1 hc
    simp [hall j c hj (by rw [List.getElem?_eq_getElem hj, e])]
  rw [this]
  rfl
theorem fall_step {pr : Str → Bool} {t : Str} {k : Nat} {ch : UInt8} (hk : starts[k]? = some ch) (hp : pr (ch :: t) = false) (h : ∀ j c, j < k → starts[j]? = some c → pr (c :: t) = false) : ∀ j c, j < k + 1 → starts[j]? = some c → pr (c :: t) = false := fun j c hj hc => by
  by_cases e : j = k
  · subst e
    rw [hk] at hc
    cases hc
    exact hp
  · exact h j c (by omega) hc
theorem startcat (B : ByteArray) (hB : B.data.toList = starts) {k : Nat} {c : UInt8} (hc : starts[k]? = some c) (t : Str) : B.extract k (k + 1) ++ bs t = bs (c :: t) := by
  obtain ⟨hlt, he⟩ := List.getElem?_eq_some_iff.1 hc
  apply ByteArray.ext
  apply Array.ext'
  rw [ByteArray.data_append, ByteArray.data_extract, Array.toList_append, Array.toList_extract, hB, bs_toList, bs_toList]
  simp only [List.extract_eq_take_drop, Nat.add_sub_cancel_left]
  rw [List.drop_eq_getElem_cons hlt, he]
  simp

set_option maxHeartbeats 2000000 in
theorem lcomp_c (g : Nat) (lb : Array Value) (eg : ∀ args w, (callFunc g args).run Tryz.prog w = .ok (.enter g args) w) (pr : Str → Bool) (part : Str) (w : World) (hl : part.length ≤ 16384) (hp : PredS g lb pr w) :
    Calls Tryz.prog 39 #[.string (bs part), .func (.func g) #[] lb] w fun e w' => e = .returned (.string (bs (lcomp part pr))) ∧ Calm w w' := by
  rcases hs : isStar part with _ | _
  · have hv : lcomp part pr = part := by simp [lcomp, hs]
    rw [hv]
    clear hv hp
    have hcut := cutStar_c part w
    rw [hs] at hcut
    go_enter Tryz.func39, Tryz.ntmps39
    go_wp2_with (go_at_call 70; refine hcut.mono ?_; rintro e w' ⟨rfl, rfl⟩)
    go_ret
    exact ⟨rfl, Calm.refl w⟩
  · have hcut := cutStar_c part w
    rw [hs, trimStar hs] at hcut
    have HS := Lib.hid hs
    have HP := Lib.hid hp
    obtain ⟨t, ht⟩ : ∃ t, part.tail = t := ⟨_, rfl⟩
    have htl : t.length ≤ 16384 := by rw [← ht]; simp; omega
    rw [ht] at hcut
    have HT := Lib.hid ht
    clear hs hp ht
    go_enter Tryz.func39, Tryz.ntmps39
    go_wp2_with (go_at_call 70; refine hcut.mono ?_; rintro e w' ⟨rfl, rfl⟩)
    go_loopw [17] (fun i wr => ∃ k : Nat, k ≤ 65 ∧ i = .int .i64 k ∧ Hid (∀ j c, j < k → starts[j]? = some c → pr (c :: t) = false) ∧ Hid (Calm w wr)) (fun i _ => 65 - (intOf i).toNat)
    case atStart => exact ⟨0, Nat.zero_le _, rfl, fun j c hj => absurd hj (Nat.not_lt_zero _), Calm.refl _⟩
    case round =>
      obtain ⟨k, hk, rfl, HI, HC⟩ := hrel
      by_cases hlt : k < 65
      · obtain ⟨ch, hch⟩ : ∃ ch, starts[k]? = some ch := ⟨starts[k]'(by rw [starts_len]; exact hlt), List.getElem?_eq_getElem _⟩
        have hcall := HP.out wr HC.out (ch :: t) (by simp; omega)
        have HCh := Lib.hid hch
        obtain ⟨r, hr⟩ : ∃ r, pr (ch :: t) = r := ⟨_, rfl⟩
        rw [hr] at hcall
        have HR := Lib.hid hr
        clear hch hr
        cases r with
        | true =>
          go_wp2_with (go_at_fn g; rw [startcat _ (by decide +kernel) HCh.out]; refine hcall.mono ?_; rintro e w2 ⟨rfl, hc2⟩)
          go_ret
          refine ⟨ret_str ?_, HC.out.trans hc2⟩
          show _ = bs (lcomp part pr)
          rw [lcomp, if_pos HS.out, HT.out, find_hit HCh.out HR.out HI.out]
        | false =>
          go_wp2_with (go_at_fn g; rw [startcat _ (by decide +kernel) HCh.out]; refine hcall.mono ?_; rintro e w2 ⟨rfl, hc2⟩)
          go_roundw
          case rel => exact ⟨k + 1, by omega, by go_num, fall_step HCh.out HR.out HI.out, HC.out.trans hc2⟩
          case measure => simp [intOf]; omega
      · go_wp2_with fail
        go_ret
        refine ⟨ret_str ?_, HC.out⟩
        show _ = bs (lcomp part pr)
        rw [lcomp, if_pos HS.out, HT.out, find_miss (fun j c hj => HI.out j c (by have := starts_len; omega))]
        exact startcat _ (by decide +kernel) (k := 0) (c := 43) rfl t
end Go.Proofs.YtdndfkoklhfffaaGreatDoor
