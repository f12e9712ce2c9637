/- Sets of numbers below 64 as words of 64 bits; math/bits.TrailingZeros64 laid at this program. -/
import Derived.Shelf.Spec.TrailingZeros
import Derived.Test.YtdndfkoklhfffaaGreatDoorRead
import Derived.Test.YtdndfkoklhfffaaGreatDoorProg
import Derived.Laws.BitsAllLaws
import Derived.Laws.Bits64b
set_option linter.unusedVariables false
set_option linter.unusedSimpArgs false
namespace Go.Proofs.YtdndfkoklhfffaaGreatDoor
open Go Go.RowKit

/-- The word whose bits are S's numbers below k. -/
def mask (S : Nat → Bool) : Nat → Nat
  | 0 => 0
  | k + 1 => mask S k ||| (if S k then 2 ^ k else 0)
theorem mask_bit (S : Nat → Bool) (k j : Nat) : (mask S k).testBit j = (decide (j < k) && S j) := by
  induction k with
  | zero => simp [mask]
  | succ k ih =>
    rw [mask, Nat.testBit_or, ih]
    by_cases e : j = k
    · subst e
      cases h : S j <;> simp [h, Nat.testBit_two_pow]
    · cases h : S k
      · have : decide (j < k + 1) = decide (j < k) := by simp; omega
        simp [this]
      · have : decide (j < k + 1) = decide (j < k) := by simp; omega
        have h2 : (2 ^ k).testBit j = false := by rw [Nat.testBit_two_pow]; simp; omega
        simp [this, h2]
theorem lt_of_bits {x k : Nat} (h : ∀ j, k ≤ j → x.testBit j = false) : x < 2 ^ k := Nat.lt_pow_two_of_testBit x fun j hj => h j hj
theorem mask_lt (S : Nat → Bool) : mask S 64 < 18446744073709551616 := by
  have := lt_of_bits (x := mask S 64) (k := 64) (fun j hj => by rw [mask_bit]; simp; omega)
  simpa using this
theorem mask_eq {x : Nat} {S : Nat → Bool} (h : ∀ j, x.testBit j = (decide (j < 64) && S j)) : x = mask S 64 := Nat.eq_of_testBit_eq fun j => by rw [h, mask_bit]
theorem bit_lt {x j : Nat} (hx : x < 18446744073709551616) (h : x.testBit j = true) : j < 64 := by
  apply Classical.byContradiction
  intro hj
  have h1 : 2 ^ 64 ≤ 2 ^ j := Nat.pow_le_pow_right (by omega) (by omega)
  have h2 : x < 2 ^ j := Nat.lt_of_lt_of_le (by simpa using hx) h1
  rw [Nat.testBit_lt_two_pow h2] at h
  cases h

/-- The lowest bit of a word that is not 0. -/
theorem ctz_low {x : Nat} (h0 : x ≠ 0) (hx : x < 18446744073709551616) : Lib.ctz 64 x < 64 ∧ x.testBit (Lib.ctz 64 x) = true ∧ (∀ j, j < Lib.ctz 64 x → x.testBit j = false) ∧ ∀ j, (x &&& (x - 1)).testBit j = (x.testBit j && decide (j ≠ Lib.ctz 64 x)) := by
  obtain ⟨m, hm, hk⟩ := Lib.ctzFrom_spec 64 x (by omega) (by simpa using hx)
  have hc : Lib.ctz 64 x = Lib.ctzFrom 64 x := by simp [Lib.ctz, h0]
  rw [hc]
  generalize Lib.ctzFrom 64 x = k at hm hk
  have hb : ∀ j, x.testBit j = (decide (k ≤ j) && (2 * m + 1).testBit (j - k)) := fun j => by rw [hm, Nat.mul_comm, Nat.testBit_mul_two_pow]
  refine ⟨hk, ?_, fun j hj => ?_, fun j => ?_⟩
  · rw [hb]; simp
  · rw [hb]; simp; omega
  · have h1 : x - 1 = 2 ^ k * (2 * m) + (2 ^ k - 1) := by
      have : 0 < 2 ^ k := Nat.pow_pos (by omega)
      rw [hm, Nat.mul_add]
      omega
    have h2 : (x - 1).testBit j = if j < k then (2 ^ k - 1).testBit j else (2 * m).testBit (j - k) := by
      rw [h1, Nat.testBit_two_pow_mul_add _ (by have : 0 < 2 ^ k := Nat.pow_pos (by omega); omega)]
    rw [Nat.testBit_and, h2, hb]
    by_cases hj : j < k
    · have : decide (k ≤ j) = false := by simp; omega
      simp [this]
    · have h3 : decide (k ≤ j) = true := by simp; omega
      rw [if_neg hj, h3, Bool.true_and]
      by_cases e : j = k
      · subst e; simp
      · obtain ⟨i, hi⟩ : ∃ i, j - k = i + 1 := ⟨j - k - 1, by omega⟩
        rw [hi, Nat.testBit_succ, Nat.testBit_succ]
        have h4 : (2 * m + 1) / 2 = m := by omega
        have h5 : 2 * m / 2 = m := by omega
        rw [h4, h5]
        simp [e]

theorem wrap_nat (x : Nat) (hx : x < 18446744073709551616) : IntKind.u64.wrap (x : Int) = (x : Int) := by
  simp only [IntKind.wrap, IntKind.bits, IntKind.signed, Bool.false_and, Bool.false_eq_true, if_false]
  have : ((2 : Int) ^ 64) = 18446744073709551616 := by decide
  rw [this]
  omega
theorem pow_lt64 {k : Nat} (hk : k < 64) : 2 ^ k < 18446744073709551616 := by
  have := Nat.pow_lt_pow_right (a := 2) (by omega) hk
  simpa using this
theorem wrap_pow {k : Nat} (hk : k < 64) : IntKind.u64.wrap ((2 : Int) ^ k) = ((2 ^ k : Nat) : Int) := by
  rw [show ((2 : Int) ^ k) = ((2 ^ k : Nat) : Int) by simp, wrap_nat _ (pow_lt64 hk)]
theorem wrap_pred {a : Nat} (h0 : 0 < a) (ha : a < 18446744073709551616) : IntKind.u64.wrap ((a : Int) - 1) = ((a - 1 : Nat) : Int) := by
  rw [show ((a : Int) - 1) = ((a - 1 : Nat) : Int) by omega, wrap_nat _ (by omega)]
theorem clear_low {a : Nat} (h0 : 0 < a) (ha : a < 18446744073709551616) : Value.int .u64 (bits .and .u64 (a : Int) ((a : Int) - 1)) = Value.int .u64 ((a &&& (a - 1) : Nat) : Int) := by
  rw [show ((a : Int) - 1) = ((a - 1 : Nat) : Int) by omega, bits_and_u64_nat a (a - 1) ha (by omega)]
theorem and_lt {a b : Nat} (ha : a < 18446744073709551616) : a &&& b < 18446744073709551616 := Nat.lt_of_le_of_lt Nat.and_le_left ha
theorem drop_bit {y k : Nat} (hk : k < 64) (hy : y < 18446744073709551616) : Value.int .u64 (bits .andNot .u64 (y : Int) (IntKind.u64.wrap ((2 : Int) ^ k))) = Value.int .u64 ((y &&& (18446744073709551615 - 2 ^ k) : Nat) : Int) := by
  rw [wrap_pow hk, Go.u64_andNot_nat y (2 ^ k) hy (pow_lt64 hk)]
theorem drop_bits {y k : Nat} (hk : k < 64) (hy : y < 18446744073709551616) (j : Nat) : (y &&& (18446744073709551615 - 2 ^ k)).testBit j = (y.testBit j && decide (j ≠ k)) := by
  rw [Nat.testBit_and]
  rcases h : y.testBit j with _ | _
  · rfl
  · have hj := bit_lt hy h
    have e : 18446744073709551615 - 2 ^ k = 2 ^ 64 - (2 ^ k + 1) := by have := pow_lt64 hk; omega
    rw [e, Nat.testBit_two_pow_sub_succ (by have := pow_lt64 hk; simpa using this), Nat.testBit_two_pow]
    simp [hj]
    omega
theorem set_bit {y k : Nat} (hk : k < 64) (hy : y < 18446744073709551616) : Value.int .u64 (bits .or .u64 (y : Int) (IntKind.u64.wrap ((2 : Int) ^ k))) = Value.int .u64 ((y ||| 2 ^ k : Nat) : Int) := by
  rw [wrap_pow hk, bits_or_u64_nat y (2 ^ k) hy (pow_lt64 hk)]
theorem set_bits (y k j : Nat) : (y ||| 2 ^ k).testBit j = (y.testBit j || decide (j = k)) := by
  rw [Nat.testBit_or, Nat.testBit_two_pow]
  congr 1
  simp [eq_comm]
theorem or_lt {y k : Nat} (hk : k < 64) (hy : y < 18446744073709551616) : y ||| 2 ^ k < 18446744073709551616 := by
  have := Nat.or_lt_two_pow (x := y) (y := 2 ^ k) (n := 64) (by simpa using hy) (by have := pow_lt64 hk; simpa using this)
  simpa using this

def tzRen : Go.Shelf.Ren := ⟨fun | 29 => 37 | n => n, fun | 0 => 0 | 3 => 3 | 4 => 4 | 5 => 5 | 22 => 61 | 25 => 94 | 54 => 93 | n => n, fun | 1 => 0 | n => n⟩
theorem tzL : Lays7.n29 Tryz.prog tzRen := {
  mixed := by kernel_rfl
  f29 := Tryz.func37.trans (congrArg some (by kernel_rfl))
  t0 := Tryz.underlying0
  a0 := Tryz.isAgg0
  z0 := Tryz.sizeOf0
  v0 := Tryz.zeroValue0
  i0 := by kernel_rfl
  t3 := Tryz.underlying3
  a3 := Tryz.isAgg3
  z3 := Tryz.sizeOf3
  v3 := Tryz.zeroValue3
  i3 := by kernel_rfl
  t4 := Tryz.underlying4
  a4 := Tryz.isAgg4
  z4 := Tryz.sizeOf4
  v4 := Tryz.zeroValue4
  i4 := by kernel_rfl
  t5 := Tryz.underlying5
  a5 := Tryz.isAgg5
  z5 := Tryz.sizeOf5
  v5 := Tryz.zeroValue5
  i5 := by kernel_rfl
  t22 := Tryz.underlying61
  a22 := Tryz.isAgg61
  z22 := Tryz.sizeOf61
  v22 := Tryz.zeroValue61
  i22 := by kernel_rfl
  t25 := Tryz.underlying94
  a25 := Tryz.isAgg94
  z25 := Tryz.sizeOf94
  v25 := Tryz.zeroValue94
  i25 := by kernel_rfl
  t54 := Tryz.underlying93
  a54 := Tryz.isAgg93
  z54 := Tryz.sizeOf93
  g1 := by kernel_rfl }

/-- The table of the lowest bits, as it lies in memory. -/
def Tab (w : World) : Prop := 0 < w.heap.size ∧ TabAt 0 Lib.deBruijn64tab w
theorem Tab.calm {w w' : World} (h : Tab w) (hc : Calm w w') : Tab w' :=
  ⟨Nat.lt_of_lt_of_le h.1 hc.size, fun j hj => (hc.cell (p := ⟨0, j, none⟩) h.1).trans (h.2 j hj)⟩
theorem tz_c (x : Nat) (hx : x < 18446744073709551616) (w : World) (hT : Tab w) : Calls Tryz.prog 37 #[.int .u64 x] w fun e w' => e = .returned (.int .i64 (Lib.ctz 64 x)) ∧ w = w' :=
  (Any7.bits_TrailingZeros64 tzL x hx w (fun _ => hT.2)).mono fun _ _ ⟨he, hw⟩ => ⟨he, hw.symm⟩
end Go.Proofs.YtdndfkoklhfffaaGreatDoor
