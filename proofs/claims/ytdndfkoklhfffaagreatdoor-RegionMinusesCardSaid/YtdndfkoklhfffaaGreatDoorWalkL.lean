/- Walks: sets of holes: matching. -/
import Derived.Test.YtdndfkoklhfffaaGreatDoorWalkK
import Derived.Test.YtdndfkoklhfffaaGreatDoorBits
set_option linter.unusedVariables false
set_option linter.unusedSimpArgs false
namespace Go.Proofs.YtdndfkoklhfffaaGreatDoor
open Go Go.RowKit Sy

/-- The holes of a set that match a component at the place i. -/
def mset (hs : List Pat) (S : Nat → Bool) (i : Nat) (x : Str) : Nat → Bool := fun j => S j && mtch (pAt (hs.getD j default) i) x

theorem low_ge {a z m k : Nat} (h : ∀ j, a.testBit j = (z.testBit j && decide (m ≤ j))) (hk : a.testBit k = true) : m ≤ k := by
  rw [h, Bool.and_eq_true] at hk
  simpa using hk.2
theorem low_set {a z m k : Nat} (h : ∀ j, a.testBit j = (z.testBit j && decide (m ≤ j))) (hk : a.testBit k = true) (hlow : ∀ j, j < k → a.testBit j = false) (hstep : ∀ j, (a &&& (a - 1)).testBit j = (a.testBit j && decide (j ≠ k))) :
    ∀ j, (a &&& (a - 1)).testBit j = (z.testBit j && decide (k + 1 ≤ j)) := fun j => by
  have hm := low_ge h hk
  rw [hstep]
  rcases Nat.lt_trichotomy j k with h1 | h1 | h1
  · rw [hlow j h1, show decide (k + 1 ≤ j) = false by simp; omega]; simp
  · subst h1; simp
  · rw [h, show decide (m ≤ j) = true by simp; omega, show decide (k + 1 ≤ j) = true by simp; omega, show decide (j ≠ k) = true by simp; omega]
    simp
theorem keep_set {a z y m k : Nat} {M : Nat → Bool} (h : ∀ j, a.testBit j = (z.testBit j && decide (m ≤ j))) (hy : ∀ j, y.testBit j = (z.testBit j && (decide (m ≤ j) || M j))) (hk : a.testBit k = true) (hlow : ∀ j, j < k → a.testBit j = false) (hM : M k = true) :
    ∀ j, y.testBit j = (z.testBit j && (decide (k + 1 ≤ j) || M j)) := fun j => by
  have hm := low_ge h hk
  rw [hy]
  cases hz : z.testBit j
  · rfl
  · rcases Nat.lt_trichotomy j k with h1 | h1 | h1
    · have h2 := h j
      rw [hlow j h1, hz, Bool.true_and] at h2
      rw [← h2, show decide (k + 1 ≤ j) = false by simp; omega]
    · subst h1; simp [hM]
    · rw [show decide (m ≤ j) = true by simp; omega, show decide (k + 1 ≤ j) = true by simp; omega]
theorem drop_set {a z y m k : Nat} {M : Nat → Bool} (h : ∀ j, a.testBit j = (z.testBit j && decide (m ≤ j))) (hy : ∀ j, y.testBit j = (z.testBit j && (decide (m ≤ j) || M j))) (hk64 : k < 64) (hy64 : y < 18446744073709551616) (hk : a.testBit k = true) (hlow : ∀ j, j < k → a.testBit j = false) (hM : M k = false) :
    ∀ j, (y &&& (18446744073709551615 - 2 ^ k)).testBit j = (z.testBit j && (decide (k + 1 ≤ j) || M j)) := fun j => by
  have hm := low_ge h hk
  rw [drop_bits hk64 hy64, hy]
  cases hz : z.testBit j
  · rfl
  · rcases Nat.lt_trichotomy j k with h1 | h1 | h1
    · have h2 := h j
      rw [hlow j h1, hz, Bool.true_and] at h2
      rw [← h2, show decide (k + 1 ≤ j) = false by simp; omega, show decide (j ≠ k) = true by simp; omega]
      simp
    · subst h1; simp [hM]
    · rw [show decide (m ≤ j) = true by simp; omega, show decide (k + 1 ≤ j) = true by simp; omega, show decide (j ≠ k) = true by simp; omega]
      rfl

set_option maxHeartbeats 2000000 in
theorem matching_c (hs : List Pat) (S : Nat → Bool) (i : Nat) (x : Str) (HA : Option Addr) (hc : Nat) (w : World) (hh : PatsR w HA hs) (hT : Tab w) (hi : i ≤ 20000) (hx : x.length ≤ 20000) (hS : ∀ j, S j = true → j < hs.length) :
    Calls Tryz.prog 42 #[.slice HA hs.length hc, .int .u64 (mask S 64 : Nat), .int .i64 i, .string (bs x)] w fun e w' => e = .returned (.int .u64 (mask (mset hs S i x) 64 : Nat)) ∧ Calm w w' := by
  obtain ⟨n, hn⟩ : ∃ n, hs.length = n := ⟨_, rfl⟩
  have Hn := Lib.hid hn
  have hlen := hh.len
  rw [hn] at hlen ⊢
  have HH := Lib.hid hh
  have HT := Lib.hid hT
  have HS := Lib.hid hS
  have hlt := mask_lt S
  obtain ⟨z, hz⟩ : ∃ z, z = mask S 64 := ⟨_, rfl⟩
  rw [← hz] at hlt ⊢
  have HZ : Hid (∀ j, z.testBit j = (decide (j < 64) && S j)) := fun j => by rw [hz, mask_bit]
  clear hn hh hT hS hz
  go_enter Tryz.func42, Tryz.ntmps42
  go_wp2_with fail
  go_loopg [1, 9] 64 (fun gg s r wr => ∃ (m a y : Nat), gg = 64 - m ∧ m ≤ 64 ∧ s = .int .u64 a ∧ r = .int .u64 y ∧ a < 18446744073709551616 ∧ y < 18446744073709551616 ∧ Hid (∀ j, a.testBit j = (z.testBit j && decide (m ≤ j))) ∧ Hid (∀ j, y.testBit j = (z.testBit j && (decide (m ≤ j) || mtch (pAt (hs.getD j default) i) x))) ∧ Hid (Calm w wr))
  case atStart => exact ⟨0, z, z, rfl, Nat.zero_le _, rfl, rfl, hlt, hlt, fun j => by simp, fun j => by simp, Calm.refl w⟩
  case round =>
    obtain ⟨m, a, y, hg, hm, rfl, rfl, ha, hy, HAa, HY, HC⟩ := hrel
    have HG := Lib.hid hg
    clear hg
    by_cases ha0 : a = 0
    · have hv : Hid (y = mask (mset hs S i x) 64) := mask_eq fun j => by
        have h1 := HAa.out j
        rw [ha0, Nat.zero_testBit] at h1
        rw [HY.out, HZ.out]
        rw [HZ.out] at h1
        simp only [mset]
        by_cases h2 : j < 64
        · cases h3 : S j
          · simp
          · simp only [h2, h3, decide_true, Bool.true_and] at h1 ⊢
            rw [← h1, Bool.false_or]
        · simp [h2]
      have hab : ((a : Int) != 0) = false := by simp [ha0]
      clear ha0
      go_wp2
      go_ret
      exact ⟨ret_int (by rw [hv.out]), HC.out⟩
    · obtain ⟨hk64, hkb, hklow, hkstep⟩ := ctz_low ha0 ha
      have hcall := fun W (hW : Calm wr W) => tz_c a ha W ((HT.out.calm HC.out).calm hW)
      obtain ⟨k, hk⟩ : ∃ k, Lib.ctz 64 a = k := ⟨_, rfl⟩
      rw [hk] at hk64 hkb hklow hkstep hcall
      have hkn : k < n := by
        have h1 := HAa.out k
        rw [hkb, HZ.out] at h1
        have h2 : S k = true := by
          cases h3 : S k
          · rw [h3] at h1; simp at h1
          · rfl
        have := HS.out k h2
        rw [Hn.out] at this
        exact this
      have Hk := Lib.hid (And.intro hkb (And.intro hklow hkstep))
      have Hk64 := hk64
      have ha1 : 0 < a := by omega
      have hab : ((a : Int) != 0) = true := by simp; omega
      clear hk hkb hklow hkstep ha0
      obtain ⟨bb, o, p, Ak, ck, rfl, hbb, hpk, h1, h2, h3, h4, h5⟩ := (HH.out.calm HC.out).get (k := k) (by rw [Hn.out]; exact hkn)
      have H5 := Lib.hid h5
      have HP := Lib.hid hpk
      have HPD : Hid (hs.getD k default = p) := by show hs.getD k default = p; rw [List.getD_eq_getElem?_getD, hpk]; rfl
      have hcall := hcall wr (Calm.refl wr)
      have hpl : (pAt p i).length ≤ 16384 := by
        rcases Nat.lt_or_ge i p.parts.length with hkb | hkb
        · have : pAt p i = p.parts[i] := by simp [pAt, List.getD_eq_getElem?_getD, List.getElem?_eq_getElem hkb]
          rw [this]; exact h5.each _ (List.getElem_mem hkb)
        · rw [pAt_out hkb]; simp
      clear h5 hpk
      have hpart := partAt_c p i Ak ck wr hi (H5.out)
      obtain ⟨r, hr⟩ : ∃ r, mtch (pAt p i) x = r := ⟨_, rfl⟩
      have hmp := fun W => mpart_c (pAt p i) x W hpl hx
      rw [hr] at hmp
      have HR := Lib.hid hr
      clear hr
      cases r with
      | true =>
        go_wp2_with (first
          | (go_at_call 37; refine hcall.mono ?_; rintro e w2 ⟨rfl, rfl⟩)
          | (go_at_call 40; refine hpart.mono ?_; rintro e w3 ⟨rfl, hc3⟩)
          | (go_at_call 65; refine (hmp _).mono ?_; rintro e w4 ⟨rfl, rfl⟩))
        go_roundg (64 - (k + 1))
        case measure => have := HG.out; have := low_ge HAa.out Hk.out.1; omega
        case rel =>
          exact ⟨k + 1, a &&& (a - 1), y, rfl, by omega, clear_low ha1 ha, rfl, and_lt ha, hy, low_set HAa.out Hk.out.1 Hk.out.2.1 Hk.out.2.2, keep_set HAa.out HY.out Hk.out.1 Hk.out.2.1 (by rw [HPD.out]; exact HR.out), HC.out.trans hc3⟩
      | false =>
        go_wp2_with (first
          | (go_at_call 37; refine hcall.mono ?_; rintro e w2 ⟨rfl, rfl⟩)
          | (go_at_call 40; refine hpart.mono ?_; rintro e w3 ⟨rfl, hc3⟩)
          | (go_at_call 65; refine (hmp _).mono ?_; rintro e w4 ⟨rfl, rfl⟩))
        go_roundg (64 - (k + 1))
        case measure => have := HG.out; have := low_ge HAa.out Hk.out.1; omega
        case rel =>
          exact ⟨k + 1, a &&& (a - 1), y &&& (18446744073709551615 - 2 ^ k), rfl, by omega, clear_low ha1 ha, drop_bit Hk64 hy, and_lt ha, and_lt hy, low_set HAa.out Hk.out.1 Hk.out.2.1 Hk.out.2.2, drop_set HAa.out HY.out Hk64 hy Hk.out.1 Hk.out.2.1 (by rw [HPD.out]; exact HR.out), HC.out.trans hc3⟩
end Go.Proofs.YtdndfkoklhfffaaGreatDoor
