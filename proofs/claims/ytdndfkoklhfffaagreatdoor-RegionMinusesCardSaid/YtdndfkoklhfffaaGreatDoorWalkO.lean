/- Walks: the program's Least. -/
import Derived.Test.YtdndfkoklhfffaaGreatDoorWalkE
import Derived.Test.YtdndfkoklhfffaaGreatDoorWalkN
import Derived.Test.YtdndfkoklhfffaaGreatDoorMem
import Derived.Deep.OwnRows
import Derived.Deep.RegionHeld3
set_option linter.unusedVariables false
set_option linter.unusedSimpArgs false
namespace Go.Proofs.YtdndfkoklhfffaaGreatDoor
open Go Go.RowKit Sy

/-- The text of the least path. -/
def leastStr (b : Pat) (hs : List Pat) (n : Nat) : Str := [47, 47] ++ Lib.join (comps b hs n n) [47]

/-- What Least hands back of a region without an error. -/
def leastVal (b : Pat) (hs : List Pat) : Value :=
  if leastLen b hs = 0 then .tuple #[.string (bs []), .bool false, .int .i64 0] else .tuple #[.string (bs (leastStr b hs (leastLen b hs))), .bool true, .int .i64 0]

theorem llen_v (b : Pat) (hs : List Pat) (n : Nat) (A : Option Addr) (c : Nat) (HA : Option Addr) (hc : Nat) (w : World) (hv : leastLen b hs = n) (hb : StrsR w A b.parts) (hh : PatsR w HA hs) :
    Calls Tryz.prog 35 #[.agg #[.slice A b.parts.length c, .bool b.rest], .slice HA hs.length hc] w fun e w' => e = .returned (.int .i64 n) ∧ Calm w w' := hv ▸ llen_c b hs A c HA hc w hb hh
theorem gcheck_v (b : Pat) (hs : List Pat) (v : Int) (A : Option Addr) (c : Nat) (HA : Option Addr) (hc : Nat) (w : World) (hv : regErr b hs = v) (hr : StrsR w A b.parts) (hnc : b.parts.length ≤ c) (hc47 : c ≤ 9223372036854775807) (hh : PatsR w HA hs) :
    Calls Tryz.prog 16 #[.agg #[.slice A b.parts.length c, .bool b.rest, .slice HA hs.length hc]] w fun e w' => e = .returned (.int .i64 v) ∧ Calm w w' := hv ▸ gcheck_c b hs A c HA hc w hr hnc hc47 hh

/-- The set of the holes that the components c match, which have paths of n components. -/
def oset (hs : List Pat) (n : Nat) (c : List Str) : Nat → Bool := fun j => decide (j < hs.length) && isOpen n c (hs.getD j default)
theorem oset_nil (hs : List Pat) (n : Nat) : oset hs n [] = fun j => decide (j < hs.length) && reaches (hs.getD j default) n := by
  funext j
  simp [oset, isOpen]
theorem seek_le {b : Pat} {hs : List Pat} : ∀ (k n : Nat), seek b hs n k ≤ n + k
  | 0, n => by simp [seek]
  | k + 1, n => by
    unfold seek
    split
    · have := seek_le (b := b) (hs := hs) k (n + 1); omega
    · omega
theorem leastLen_le {b : Pat} {hs : List Pat} (hb : b.parts.length ≤ 16384) (hh : ∀ p ∈ hs, p.parts.length ≤ 16384) : leastLen b hs ≤ 16388 := by
  have h1 := seek_le (b := b) (hs := hs) (lastLen b hs + 1 - firstLen b) (firstLen b)
  have h2 : lastLen b hs ≤ 16385 := by
    unfold lastLen
    split
    · have := (lastTo_bound hb hh hs.length).1
      rw [lastTo, List.take_length] at this
      exact this
    · omega
  have h3 : firstLen b ≤ 16385 := by unfold firstLen; split <;> omega
  unfold leastLen
  omega
theorem set_grow {y k : Nat} {f : Nat → Bool} (hy : ∀ j, y.testBit j = (decide (j < k) && f j)) (hf : f k = true) : ∀ j, (y ||| 2 ^ k).testBit j = (decide (j < k + 1) && f j) := fun j => by
  rw [set_bits, hy]
  rcases Nat.lt_trichotomy j k with h1 | h1 | h1
  · rw [show decide (j < k) = true by simp; omega, show decide (j < k + 1) = true by simp; omega, show decide (j = k) = false by simp; omega]
    simp
  · subst h1; simp [hf]
  · rw [show decide (j < k) = false by simp; omega, show decide (j < k + 1) = false by simp; omega, show decide (j = k) = false by simp; omega]
    simp
theorem set_skip {y k : Nat} {f : Nat → Bool} (hy : ∀ j, y.testBit j = (decide (j < k) && f j)) (hf : f k = false) : ∀ j, y.testBit j = (decide (j < k + 1) && f j) := fun j => by
  rw [hy]
  rcases Nat.lt_trichotomy j k with h1 | h1 | h1
  · rw [show decide (j < k) = true by simp; omega, show decide (j < k + 1) = true by simp; omega]
  · subst h1; simp [hf]
  · rw [show decide (j < k) = false by simp; omega, show decide (j < k + 1) = false by simp; omega]

theorem clo_skip {a z y m k : Nat} {M : Nat → Bool} (h : ∀ j, a.testBit j = (y.testBit j && decide (m ≤ j))) (hz : ∀ j, z.testBit j = (y.testBit j && (decide (j < m) && M j))) (hk : a.testBit k = true) (hlow : ∀ j, j < k → a.testBit j = false) (hM : M k = false) :
    ∀ j, z.testBit j = (y.testBit j && (decide (j < k + 1) && M j)) := fun j => by
  have hm := low_ge h hk
  rw [hz]
  cases hy : y.testBit j
  · rfl
  · rcases Nat.lt_trichotomy j k with h1 | h1 | h1
    · have h2 := h j
      rw [hlow j h1, hy, Bool.true_and] at h2
      have h3 : ¬ m ≤ j := by simpa using h2.symm
      rw [show decide (j < m) = true by simp; omega, show decide (j < k + 1) = true by simp; omega]
    · subst h1; simp [hM]
    · rw [show decide (j < m) = false by simp; omega, show decide (j < k + 1) = false by simp; omega]
theorem clo_set {a z y m k : Nat} {M : Nat → Bool} (h : ∀ j, a.testBit j = (y.testBit j && decide (m ≤ j))) (hz : ∀ j, z.testBit j = (y.testBit j && (decide (j < m) && M j))) (hk : a.testBit k = true) (hlow : ∀ j, j < k → a.testBit j = false) (hM : M k = true) :
    ∀ j, (z ||| 2 ^ k).testBit j = (y.testBit j && (decide (j < k + 1) && M j)) := fun j => by
  have hm := low_ge h hk
  rw [set_bits, hz]
  have hyk : y.testBit k = true := by
    have := h k
    rw [hk] at this
    cases hy : y.testBit k
    · rw [hy] at this; simp at this
    · rfl
  rcases Nat.lt_trichotomy j k with h1 | h1 | h1
  · cases hy : y.testBit j
    · simp; omega
    · have h2 := h j
      rw [hlow j h1, hy, Bool.true_and] at h2
      have h3 : ¬ m ≤ j := by simpa using h2.symm
      rw [show decide (j < m) = true by simp; omega, show decide (j < k + 1) = true by simp; omega, show decide (j = k) = false by simp; omega]
      simp
  · subst h1; simp [hM, hyk]
  · rw [show decide (j < m) = false by simp; omega, show decide (j < k + 1) = false by simp; omega, show decide (j = k) = false by simp; omega]
    simp

theorem pAt_len {w : World} {A : Option Addr} {b : Pat} {i : Nat} (h : StrsR w A b.parts) : (pAt b i).length ≤ 16384 := by
  rcases Nat.lt_or_ge i b.parts.length with hkb | hkb
  · have : pAt b i = b.parts[i] := by simp [pAt, List.getD_eq_getElem?_getD, List.getElem?_eq_getElem hkb]
    rw [this]; exact h.each _ (List.getElem_mem hkb)
  · rw [pAt_out hkb]; simp
theorem mask_zero {S : Nat → Bool} {n : Nat} (h64 : n ≤ 64) (hS : ∀ j, S j = true → j < n) : (mask S 64 == 0) = (List.range n).all fun j => !S j := by
  rw [Bool.eq_iff_iff, beq_iff_eq, List.all_eq_true]
  constructor
  · intro h j hj
    have h1 := mask_bit S 64 j
    rw [h, Nat.zero_testBit, show decide (j < 64) = true by have := List.mem_range.1 hj; simp; omega, Bool.true_and] at h1
    simp [← h1]
  · intro h
    apply Nat.eq_of_testBit_eq
    intro j
    rw [mask_bit, Nat.zero_testBit]
    cases h1 : S j
    · simp
    · have := h j (List.mem_range.2 (hS j h1))
      simp [h1] at this
theorem all_range {α : Type} [Inhabited α] (l : List α) (f : α → Bool) : ((List.range l.length).all fun j => f (l.getD j default)) = l.all f := by
  rw [Bool.eq_iff_iff, List.all_eq_true, List.all_eq_true]
  constructor
  · intro h x hx
    obtain ⟨j, hj, e⟩ := List.mem_iff_getElem.1 hx
    have := h j (List.mem_range.2 hj)
    rw [List.getD_eq_getElem?_getD, List.getElem?_eq_getElem hj, e] at this
    exact this
  · intro h j hj
    have hj := List.mem_range.1 hj
    rw [List.getD_eq_getElem?_getD, List.getElem?_eq_getElem hj]
    exact h _ (List.getElem_mem hj)
/-- The component that the program picks. -/
theorem pick_eq {b : Pat} {hs : List Pat} {n i : Nat} (h64 : hs.length ≤ 64) :
    lcomp (pAt b i) (fun x => mask (mset hs (fun j => oset hs n (comps b hs n i) j && covers (hs.getD j default) b (i + 1) n) i x) 64 == 0) = pick b hs n (comps b hs n i) := by
  have hl := comps_length b hs n i
  have hal : ∀ x, (mask (mset hs (fun j => oset hs n (comps b hs n i) j && covers (hs.getD j default) b (i + 1) n) i x) 64 == 0) = allowed b hs n (comps b hs n i) x := fun x => by
    rw [mask_zero h64 (fun j hj => by simp only [mset, oset, Bool.and_eq_true, decide_eq_true_eq] at hj; exact hj.1.1.1), show allowed b hs n (comps b hs n i) x = (List.range hs.length).all (fun j => !(closes b n (comps b hs n i) (hs.getD j default) && mtch (pAt (hs.getD j default) (comps b hs n i).length) x)) from (all_range hs _).symm]
    rw [Bool.eq_iff_iff, List.all_eq_true, List.all_eq_true]
    constructor <;> intro h j hj
    · have := h j hj
      have hj := List.mem_range.1 hj
      simpa [mset, oset, closes, hl, hj] using this
    · have := h j hj
      have hj := List.mem_range.1 hj
      simpa [mset, oset, closes, hl, hj] using this
  unfold lcomp pick
  rw [hl]
  simp only [hal]

theorem oset_snoc (b : Pat) (hs : List Pat) (n i : Nat) : mset hs (oset hs n (comps b hs n i)) i (pick b hs n (comps b hs n i)) = oset hs n (comps b hs n (i + 1)) := by
  funext j
  show (decide (j < hs.length) && isOpen n (comps b hs n i) (hs.getD j default) && mtch (pAt (hs.getD j default) i) (pick b hs n (comps b hs n i))) = (decide (j < hs.length) && isOpen n (comps b hs n i ++ [pick b hs n (comps b hs n i)]) (hs.getD j default))
  rw [isOpen_snoc, comps_length, Bool.and_assoc]
theorem pick_len {w : World} {A : Option Addr} {b : Pat} {hs : List Pat} {n : Nat} {c : List Str} (h : StrsR w A b.parts) : (pick b hs n c).length ≤ 20000 := by
  have := pAt_len (i := c.length) h
  unfold pick
  dsimp only
  split
  · simp only [List.length_cons, List.length_tail]; omega
  · omega

theorem comps_len {w : World} {A : Option Addr} {b : Pat} {hs : List Pat} {n : Nat} (h : StrsR w A b.parts) : ∀ (k : Nat), ∀ l ∈ comps b hs n k, l.length ≤ 20000
  | 0, l, hl => by cases hl
  | k + 1, l, hl => by
    rcases List.mem_append.1 hl with h1 | h1
    · exact comps_len h k l h1
    · rw [List.mem_singleton.1 h1]; exact pick_len h

theorem info_str : (Tryz.prog.info? 9).map (fun i => (i.zero, i.size, i.bytes)) = some (some (.string ByteArray.empty), 1, 16) := by kernel_rfl

set_option maxRecDepth 100000 in
set_option maxHeartbeats 4000000 in
theorem least_c (b : Pat) (hs : List Pat) (A : Option Addr) (c : Nat) (HA : Option Addr) (hc : Nat) (w : World) (hr : StrsR w A b.parts) (hnc : b.parts.length ≤ c) (hc47 : c ≤ 9223372036854775807) (hh : PatsR w HA hs) (hT : Tab w)
    (hok : regErr b hs = 0) (h64 : hs.length ≤ 64) :
    Calls Tryz.prog 19 #[.agg #[.slice A b.parts.length c, .bool b.rest, .slice HA hs.length hc]] w fun e w' => e = .returned (leastVal b hs) ∧ Calm w w' := by
  obtain ⟨hn, hhn⟩ : ∃ hn, hs.length = hn := ⟨_, rfl⟩
  obtain ⟨w1, hw1⟩ : ∃ w1, w1 = w.alloc (.cells #[.slice A b.parts.length c, .bool b.rest, .slice HA hn hc] 27) := ⟨_, rfl⟩
  have hc1 : Calm w w1 := by rw [hw1]; exact (Calm.refl w).alloc _
  have hs1 : w.heap.size < w1.heap.size := by rw [hw1]; simp
  have k0 : w1.cell? ⟨w.heap.size, 0, none⟩ = some (.slice A b.parts.length c) := by rw [hw1]; simp
  have k1 : w1.cell? ⟨w.heap.size, 1, none⟩ = some (.bool b.rest) := by rw [hw1]; simp
  have k2 : w1.cell? ⟨w.heap.size, 2, none⟩ = some (.slice HA hn hc) := by rw [hw1]; simp
  have hck := gcheck_v b hs 0 A c HA hc w1 hok (hr.calm hc1) hnc hc47 (hh.calm hc1)
  obtain ⟨n, hnn⟩ : ∃ n, leastLen b hs = n := ⟨_, rfl⟩
  have hll := fun W (hW : Calm w1 W) => llen_v b hs n A c HA hc W hnn ((hr.calm hc1).calm hW) ((hh.calm hc1).calm hW)
  rw [hhn] at hck hll h64 ⊢
  have HW := Lib.hid hw1
  have HC := Lib.hid hc1
  have HLL := Lib.hid hll
  have Hhn := Lib.hid hhn
  have Hnn := Lib.hid hnn
  have HK := Lib.hid (And.intro hs1 (And.intro k0 (And.intro k1 k2)))
  have HB := Lib.hid (hr.calm hc1)
  have HH := Lib.hid (hh.calm hc1)
  have HT := Lib.hid (hT.calm hc1)
  have HN16 : Hid (n ≤ 16388) := by show n ≤ 16388; rw [← hnn]; exact leastLen_le hr.len hh.lens
  clear hw1 hc1 hll hhn hnn hs1 k0 k1 k2 hr hh hT hok
  go_enter Tryz.func19, Tryz.ntmps19
  by_cases hn0 : n = 0
  · have hv : Hid (leastVal b hs = .tuple #[.string (bs []), .bool false, .int .i64 0]) := by show leastVal b hs = _; rw [leastVal, if_pos (by rw [Hnn.out]; exact hn0)]
    subst hn0
    go_wp2_with (first
      | (go_at_call 16; rw [← HW.out]; refine hck.mono ?_; rintro e w2 ⟨rfl, hc2⟩; have l0 := hc2.at_ HK.out.2.1 HK.out.1; have l1 := hc2.at_ HK.out.2.2.1 HK.out.1; have l2 := hc2.at_ HK.out.2.2.2 HK.out.1)
      | (go_at_call 35; refine (HLL.out _ hc2).mono ?_; rintro e w3 ⟨rfl, hc3⟩))
    go_ret3
    exact ⟨by rw [hv.out]; rfl, HC.out.trans (hc2.trans hc3)⟩
  · have hnb : ((n : Int) == 0) = false := by simp; omega
    have Hn0 := Lib.hid hn0
    clear hn0
    go_wp2_with (first
      | (go_at_call 16; rw [← HW.out]; refine hck.mono ?_; rintro e w2 ⟨rfl, hc2⟩; have l0 := hc2.at_ HK.out.2.1 HK.out.1; have l1 := hc2.at_ HK.out.2.2.1 HK.out.1; have l2 := hc2.at_ HK.out.2.2.2 HK.out.1)
      | (go_at_call 35; refine (HLL.out _ hc2).mono ?_; rintro e w3 ⟨rfl, hc3⟩; have l3 := hc3.at_ l2 (Nat.lt_of_lt_of_le HK.out.1 hc2.size)))
    have hn16 := HN16.out
    have HC3 := Lib.hid (hc2.trans hc3)
    clear hck hc2 hc3 l0 l1 l2 l3
    go_loopw [7, 30] (fun t q wr => ∃ k y : Nat, k ≤ hn ∧ q = .int .i64 k ∧ t = .int .u64 y ∧ y < 18446744073709551616 ∧ Hid (∀ j, y.testBit j = (decide (j < k) && reaches (hs.getD j default) n)) ∧ Hid (Calm w1 wr)) (fun _ q _ => hn - (intOf q).toNat)
    case atStart => exact ⟨0, 0, Nat.zero_le _, rfl, rfl, by omega, fun j => by simp, HC3.out⟩
    case round =>
      obtain ⟨k, y, hk, rfl, rfl, hy, HY, HCr⟩ := hrel
      by_cases hlt : k < hn
      · obtain ⟨bb, o, p, Ak, ck, rfl, _, hpk, h1, h2, h3, h4, h5⟩ := (HH.out.calm HCr.out).get (k := k) (by rw [Hhn.out]; exact hlt)
        have hpl := h5.len
        have HPD : Hid (hs.getD k default = p) := by show hs.getD k default = p; rw [List.getD_eq_getElem?_getD, hpk]; rfl
        have hk64 : k < 64 := by omega
        clear h5 hpk
        rcases hre : reaches p n with _ | _
        · go_wp2_with (go_at_call 36; refine (reaches_v _ _ _ _ _ _ hre hpl).mono ?_; rintro e w4 ⟨rfl, hc4⟩)
          go_roundw
          case rel => exact ⟨k + 1, y, by omega, by go_num, rfl, hy, set_skip HY.out (by rw [HPD.out]; exact hre), HCr.out.trans (((Calm.refl _).alloc _).trans hc4)⟩
          case measure => simp [intOf]; omega
        · go_wp2_with (go_at_call 36; refine (reaches_v _ _ _ _ _ _ hre hpl).mono ?_; rintro e w4 ⟨rfl, hc4⟩)
          go_roundw
          case rel => exact ⟨k + 1, y ||| 2 ^ k, by omega, by go_num, set_bit hk64 hy, or_lt hk64 hy, set_grow HY.out (by rw [HPD.out]; exact hre), HCr.out.trans (((Calm.refl _).alloc _).trans hc4)⟩
          case measure => simp [intOf]; omega
      · have hym : Hid (y = mask (oset hs n []) 64) := mask_eq fun j => by
          rw [HY.out, oset_nil, Hhn.out]
          have : k = hn := by omega
          rw [this]
          by_cases h1 : j < hn
          · have h2 : j < 64 := by omega
            simp [h1, h2]
          · simp [h1]
        have hmk := run_make_row' (P := Tryz.prog) 22 9 (.string ByteArray.empty) 16 Tryz.underlying22 info_str rfl .i64 .i64 n (by omega) (by omega)
        have HCrr := HCr
        clear HY
        obtain ⟨Bk, hBk⟩ : ∃ Bk, wr.heap.size = Bk := ⟨_, rfl⟩
        obtain ⟨wm, hwm⟩ : ∃ wm, wm = wr.alloc (.cells (madeCells #[.string ByteArray.empty] n) 9) := ⟨_, rfl⟩
        have HWm := Lib.hid hwm
        have hRow : RowAt wm Bk n [] := by rw [hwm, ← hBk]; exact RowAt.made wr n
        have hCm : Calm w1 wm := by rw [hwm]; exact HCr.out.alloc _
        have hBm : Bk < wm.heap.size := by rw [hwm, ← hBk]; simp
        have hB1 : w1.heap.size ≤ Bk := by rw [← hBk]; exact HCr.out.size
        have HM := Lib.hid (And.intro hRow (And.intro hCm (And.intro hBm hB1)))
        have HBk := Lib.hid hBk
        clear hwm hRow hCm hBm hB1 hBk
        go_wp2_with fail
        rw [← HWm.out, HBk.out]
        clear hmk HCrr HCr
        go_loopw [7, 47] (fun t q wr => ∃ i y : Nat, i ≤ n ∧ q = .int .i64 i ∧ t = .int .u64 y ∧ y < 18446744073709551616 ∧ Hid (y = mask (oset hs n (comps b hs n i)) 64) ∧ Hid (RowAt wr Bk n (comps b hs n i) ∧ Calm w1 wr ∧ Bk < wr.heap.size)) (fun _ q _ => n - (intOf q).toNat)
        case atStart => exact ⟨0, y, Nat.zero_le _, rfl, rfl, hy, hym, HM.out.1, HM.out.2.1, HM.out.2.2.1⟩
        case round =>
          obtain ⟨i, y, hi, rfl, rfl, hy, hym, HO⟩ := hrel
          by_cases hlt2 : i < n
          · obtain ⟨Bi, hBi⟩ : ∃ Bi, wr.heap.size = Bi := ⟨_, rfl⟩
            obtain ⟨wo, hwo⟩ : ∃ wo, wo = (wr.alloc (.cells #[.int .i64 i] 3)).alloc (.cells #[.int .u64 0] 61) := ⟨_, rfl⟩
            have hco : Calm wr wo := by rw [hwo]; exact ((Calm.refl _).alloc _).alloc _
            have hIn : Inner w1 Bk Bi (Bi + 1) n i (comps b hs n i) 0 wo := by
              refine ⟨HO.out.2.1.trans hco, HO.out.1.calm hco HO.out.2.2, ?_, ?_, HM.out.2.2.2, by rw [← hBi]; exact HO.out.2.2, by omega, by rw [hwo, ← hBi]; simp⟩
              · rw [hwo, ← hBi, Below.heap_alloc _ _ _ (by simp)]; exact heap_alloc_new _ _
              · have e : Bi + 1 = (wr.alloc (.cells #[.int .i64 i] 3)).heap.size := by simp [hBi]
                rw [hwo, e]; exact heap_alloc_new _ _
            have HIn := Lib.hid hIn
            have HWo := Lib.hid hwo
            have HBi := Lib.hid hBi
            clear hIn hwo hco hBi
            go_wp2_with fail
            rw [← HWo.out, HBi.out]
            go_loopg [13] 64 (fun gg q wr => ∃ m a z : Nat, gg = 64 - m ∧ m ≤ 64 ∧ q = .int .u64 a ∧ a < 18446744073709551616 ∧ z < 18446744073709551616 ∧ Hid (∀ j, a.testBit j = (y.testBit j && decide (m ≤ j))) ∧ Hid (∀ j, z.testBit j = (y.testBit j && (decide (j < m) && covers (hs.getD j default) b (i + 1) n))) ∧ Hid (Inner w1 Bk Bi (Bi + 1) n i (comps b hs n i) z wr))
            case atStart => exact ⟨0, y, 0, rfl, Nat.zero_le _, rfl, hy, by omega, fun j => by simp, fun j => by simp, HIn.out⟩
            case round =>
              obtain ⟨m, a, z, hg, hm, rfl, ha, hz, HA1, HZ1, HI⟩ := hrel
              have HG := Lib.hid hg
              clear hg
              by_cases ha0 : a = 0
              · have hab : ((a : Int) != 0) = false := by simp [ha0]
                obtain ⟨CS, hCS⟩ : ∃ CS : Nat → Bool, CS = fun j => oset hs n (comps b hs n i) j && covers (hs.getD j default) b (i + 1) n := ⟨_, rfl⟩
                have hzm : Hid (z = mask CS 64) := mask_eq fun j => by
                  have h1 := HA1.out j
                  rw [ha0, Nat.zero_testBit, hym.out, mask_bit] at h1
                  rw [HZ1.out, hym.out, mask_bit, hCS]
                  by_cases h2 : j < 64
                  · cases h3 : oset hs n (comps b hs n i) j
                    · simp [h3]
                    · rw [h3] at h1
                      simp only [h2, decide_true, Bool.true_and] at h1
                      have h4 : ¬ m ≤ j := by simpa using h1.symm
                      have h5 : j < m := by omega
                      simp [h2, h3, h5]
                  · simp [h2]
                have HCS := Lib.hid hCS
                have hgs := Nat.lt_of_lt_of_le HK.out.1 HI.out.calm.size
                clear hCS ha0
                have HSt : Hid (∀ W : World, Calm wr W → (W.cell? ⟨w.heap.size, 0, none⟩ = some (.slice A b.parts.length c) ∧ W.cell? ⟨w.heap.size, 1, none⟩ = some (.bool b.rest) ∧ W.cell? ⟨Bi, 0, none⟩ = some (.int .i64 i))) := fun W hW =>
                  ⟨hW.at_ (HI.out.calm.at_ HK.out.2.1 HK.out.1) hgs, hW.at_ (HI.out.calm.at_ HK.out.2.2.1 HK.out.1) hgs, hW.at_ HI.out.i_ (by have := HI.out.o3; have := HI.out.o4; omega)⟩
                have K1 : Hid (∀ W : World, Calm wr W → Calls Tryz.prog 40 #[.agg #[.slice A b.parts.length c, .bool b.rest], .int .i64 i] W fun e w' => e = .returned (.string (bs (pAt b i))) ∧ Calm W w') := fun W hW => partAt_c b i A c W (by omega) ((HB.out.calm HI.out.calm).calm hW)
                have K2 : Hid (∀ W : World, Calm wr W → Calls Tryz.prog 39 #[.string (bs (pAt b i)), .func (.func 41) #[] #[.pointer (some ⟨w.heap.size, 0, none⟩), .pointer (some ⟨Bi + 1, 0, none⟩), .pointer (some ⟨Bi, 0, none⟩)]] W fun e w' => e = .returned (.string (bs (pick b hs n (comps b hs n i)))) ∧ Calm W w') := fun W hW => by
                  have hbl : (pAt b i).length ≤ 16384 := pAt_len HB.out
                  rw [← pick_eq (by rw [Hhn.out]; exact h64)]
                  exact lcomp_c 41 _ (enters_of Tryz.func41 (by kernel_rfl) rfl) _ (pAt b i) W hbl
                    (lclo_pred hs _ i HA hc W w.heap.size (Bi + 1) Bi ((HH.out.calm HI.out.calm).calm hW) ((HT.out.calm HI.out.calm).calm hW) (by omega) (fun j hj => by simp only [oset, Bool.and_eq_true, decide_eq_true_eq] at hj; exact hj.1.1)
                      (Nat.lt_of_lt_of_le hgs hW.size) (Nat.lt_of_lt_of_le HI.out.o4 hW.size) (Nat.lt_of_lt_of_le (by have := HI.out.o3; have := HI.out.o4; omega) hW.size)
                      (by rw [Hhn.out]; exact hW.at_ (HI.out.calm.at_ HK.out.2.2.2 HK.out.1) hgs) (by have := hW.at_ HI.out.c_ HI.out.o4; rw [hzm.out, HCS.out] at this; exact this) (hW.at_ HI.out.i_ (by have := HI.out.o3; have := HI.out.o4; omega)))
                have hB12 : Bk < Bi := HI.out.o2
                have hB01 : w.heap.size < Bk := Nat.lt_of_lt_of_le HK.out.1 HI.out.o1
                have hB23 : Bi < wr.heap.size := by have := HI.out.o3; have := HI.out.o4; omega
                obtain ⟨v0, hv0⟩ := HI.out.row.some_ hlt2
                have HV0 := Lib.hid hv0
                clear hv0
                go_wp2_with fail
                go_region_held3 (fun w' => w'.cell? ⟨w.heap.size, 0, none⟩ = some (.slice A b.parts.length c) ∧ w'.cell? ⟨w.heap.size, 1, none⟩ = some (.bool b.rest) ∧ w'.cell? ⟨Bi, 0, none⟩ = some (.int .i64 i))
                  (first
                    | exact HSt.out _ ((Calm.refl _).drewN 1)
                    | exact HSt.out _ hwb
                    | exact HSt.out _ hwa
                    | exact ⟨(World.cell?_setCell_other _ _ _ _ (by intro e; injection e with e1 e2 e3; omega)).trans (HSt.out _ hwb).1, (World.cell?_setCell_other _ _ _ _ (by intro e; injection e with e1 e2 e3; omega)).trans (HSt.out _ hwb).2.1, (World.cell?_setCell_other _ _ _ _ (by intro e; injection e with e1 e2 e3; omega)).trans (HSt.out _ hwb).2.2⟩)
                  ((first
                    | (go_at_call 40; refine (K1.out _ ((Calm.refl _).drewN 1)).mono ?_; rintro e wa ⟨rfl, hca⟩; have hwa : Calm wr wa := ((Calm.refl wr).drewN 1).trans hca)
                    | (go_at_call 39; refine (K2.out _ hwa).mono ?_; rintro e wb ⟨rfl, hcb⟩; have hwb : Calm wr wb := hwa.trans hcb; have sc := hwb.at_ HV0.out (by omega); have sf : wb.frozen? ⟨Bk, i, none⟩ = false := (hwb.frozen (p := ⟨Bk, i, none⟩) (by show Bk < _; omega)).trans (HI.out.row.free i))))
                all_goals
                  obtain ⟨wc, hwc⟩ : ∃ wc, wc = wb.setCell ⟨Bk, i, none⟩ (.string (bs (pick b hs n (comps b hs n i)))) := ⟨_, rfl⟩
                  have hrow : RowAt wc Bk n (comps b hs n (i + 1)) := by
                    rw [hwc]
                    exact (HI.out.row.calm hwb (by omega)).set (comps_length b hs n i).symm hlt2 _
                  have hcc : Calm w1 wc := by
                    rw [hwc]
                    exact Below.setCell (HI.out.calm.trans hwb) (p := ⟨Bk, i, none⟩) HI.out.o1 _
                  have hsz : wr.heap.size ≤ wc.heap.size := by
                    rw [hwc]
                    have := hwb.size
                    simpa [World.setCell] using this
                  have gC : wc.cell? ⟨Bi, 0, none⟩ = some (.int .i64 i) := by
                    rw [hwc]
                    exact (World.cell?_setCell_other _ _ _ _ (by intro e; injection e with e1 e2 e3; omega)).trans (HSt.out _ hwb).2.2
                  have gs2 := Nat.lt_of_lt_of_le HK.out.1 hcc.size
                  have e0 : ∀ q : CalmTo wc, q.w.cell? ⟨w.heap.size, 2, none⟩ = some (.slice HA hn hc) := fun q => q.cell (hcc.at_ HK.out.2.2.2 HK.out.1) gs2
                  have e1 : ∀ q : CalmTo wc, q.w.cell? ⟨Bi, 0, none⟩ = some (.int .i64 i) := fun q => q.cell gC (by omega)
                  have e2 : ∀ q : CalmTo wc, q.w.cell? ⟨Bk, i, none⟩ = some (.string (bs (pick b hs n (comps b hs n i)))) := fun q => q.cell (hrow.cell (by show (comps b hs n i ++ [pick b hs n (comps b hs n i)])[i]? = _; rw [List.getElem?_append_right (by rw [comps_length]; exact Nat.le_refl _), comps_length]; simp)) (by omega)
                  have K3 : Hid (∀ q : CalmTo wc, Calls Tryz.prog 42 #[.slice HA hn hc, .int .u64 y, .int .i64 i, .string (bs (pick b hs n (comps b hs n i)))] q.w fun e w' => e = .returned (.int .u64 (mask (oset hs n (comps b hs n (i + 1))) 64 : Nat)) ∧ Calm q.w w') := fun q => by
                    have := matching_c hs (oset hs n (comps b hs n i)) i (pick b hs n (comps b hs n i)) HA hc q.w ((HH.out.calm hcc).calm q.h) ((HT.out.calm hcc).calm q.h) (by omega) (pick_len HB.out) (fun j hj => by simp only [oset, Bool.and_eq_true, decide_eq_true_eq] at hj; exact hj.1)
                    rw [Hhn.out, ← hym.out, oset_snoc] at this
                    exact this
                  have HWc := Lib.hid hwc
                  have HO2 := Lib.hid (And.intro hrow (And.intro hcc (show Bk < wc.heap.size by omega)))
                  clear hrow hcc gC sc sf hwc
                  go_wp2_with fail
                  rw [← HWc.out]
                  refine wp_region_calm (by kernel_rfl) (by kernel_rfl) ?_
                  repeat (go_big_quiet_step ((go_at_call 42; exact calmOf (K3.out _))))
                  refine wpQuiet_nil ?_
                  intro w7 hc7
                  have HC7 := Lib.hid hc7
                  clear e0 e1 e2 hc7
                  go_wp2
                  go_roundw
                  case rel => exact ⟨i + 1, _, by omega, by go_num, rfl, mask_lt _, rfl, HO2.out.1.calm HC7.out HO2.out.2.2, HO2.out.2.1.trans HC7.out, Nat.lt_of_lt_of_le HO2.out.2.2 HC7.out.size⟩
                  case measure => simp [intOf]; omega
              · obtain ⟨hk64, hkb, hklow, hkstep⟩ := ctz_low ha0 ha
                have hcall := tz_c a ha wr (HT.out.calm HI.out.calm)
                obtain ⟨k, hk⟩ : ∃ k, Lib.ctz 64 a = k := ⟨_, rfl⟩
                rw [hk] at hk64 hkb hklow hkstep hcall
                have hkn : k < hn := by
                  have h1 := HA1.out k
                  rw [hkb, hym.out, mask_bit] at h1
                  have h2 : oset hs n (comps b hs n i) k = true := by
                    cases h3 : oset hs n (comps b hs n i) k
                    · rw [h3] at h1; simp at h1
                    · rfl
                  have h4 : k < hs.length := by
                    unfold oset at h2
                    simp only [Bool.and_eq_true, decide_eq_true_eq] at h2
                    exact h2.1
                  rw [Hhn.out] at h4
                  exact h4
                have Hk := Lib.hid (And.intro hkb (And.intro hklow hkstep))
                have ha1 : 0 < a := by omega
                have hab : ((a : Int) != 0) = true := by simp; omega
                clear hk hkb hklow hkstep ha0
                obtain ⟨bb, o, p, Ak, ck, rfl, hbb, hpk, h1, h2, h3, h4, h5⟩ := (HH.out.calm HI.out.calm).get (k := k) (by rw [Hhn.out]; exact hkn)
                have HPD : Hid (hs.getD k default = p) := by show hs.getD k default = p; rw [List.getD_eq_getElem?_getD, hpk]; rfl
                have hgs := Nat.lt_of_lt_of_le HK.out.1 HI.out.calm.size
                have e0 : ∀ p : CalmTo wr, p.w.cell? ⟨w.heap.size, 0, none⟩ = some (.slice A b.parts.length c) := fun p => p.cell (HI.out.calm.at_ HK.out.2.1 HK.out.1) hgs
                have e1 : ∀ p : CalmTo wr, p.w.cell? ⟨w.heap.size, 1, none⟩ = some (.bool b.rest) := fun p => p.cell (HI.out.calm.at_ HK.out.2.2.1 HK.out.1) hgs
                have e2 : ∀ p : CalmTo wr, p.w.cell? ⟨w.heap.size, 2, none⟩ = some (.slice (some ⟨bb, o, none⟩) hn hc) := fun p => p.cell (HI.out.calm.at_ HK.out.2.2.2 HK.out.1) hgs
                have e3 : ∀ q : CalmTo wr, q.w.cell? ⟨bb, o + k * 2, none⟩ = some (.slice Ak p.parts.length ck) := fun q => q.cell h1 hbb
                have e4 : ∀ q : CalmTo wr, q.w.cell? ⟨bb, o + k * 2 + 1, none⟩ = some (.bool p.rest) := fun q => q.cell h2 hbb
                have e5 : ∀ q : CalmTo wr, q.w.cell? ⟨Bi, 0, none⟩ = some (.int .i64 i) := fun q => q.cell HI.out.i_ (by have := HI.out.o3; have := HI.out.o4; omega)
                obtain ⟨r, hr⟩ : ∃ r, covers p b (i + 1) n = r := ⟨_, rfl⟩
                have KC : ∀ q : CalmTo wr, Calls Tryz.prog 38 #[.agg #[.slice Ak p.parts.length ck, .bool p.rest], .agg #[.slice A b.parts.length c, .bool b.rest], .int .i64 ((i : Int) + 1), .int .i64 n] q.w fun e w' => e = .returned (.bool r) ∧ Calm q.w w' := fun q => by
                  have := covers_c p b (i + 1) n Ak ck A c q.w (by omega) (by omega) (h5.calm q.h) ((HB.out.calm HI.out.calm).calm q.h)
                  rw [hr, show (((i + 1 : Nat)) : Int) = (i : Int) + 1 by omega] at this
                  exact this
                have HKC := Lib.hid KC
                have HR := Lib.hid hr
                clear h1 h2 h5 hpk KC hr
                go_wp2_with (go_at_call 37; refine hcall.mono ?_; rintro e w2 ⟨rfl, rfl⟩)
                refine wp_region_calm (by kernel_rfl) (by kernel_rfl) ?_
                repeat (go_big_quiet_step ((go_at_call 38; exact calmOf (HKC.out _))))
                refine wpQuiet_nil ?_
                intro w6 hc6
                have HI6 := Lib.hid (HI.out.next hc6)
                clear e0 e1 e2 e3 e4 e5 hcall hc6
                cases r with
                | true =>
                  have f0 := HI6.out.c_
                  have f1 := HI6.out.f_
                  go_wp2_with fail
                  go_region
                  go_wp2
                  go_roundg (64 - (k + 1))
                  case measure => have := HG.out; have := low_ge HA1.out Hk.out.1; omega
                  case rel =>
                    exact ⟨k + 1, a &&& (a - 1), z ||| 2 ^ k, rfl, by omega, clear_low ha1 ha, and_lt ha, or_lt hk64 hz, low_set HA1.out Hk.out.1 Hk.out.2.1 Hk.out.2.2, clo_set HA1.out HZ1.out Hk.out.1 Hk.out.2.1 (by rw [HPD.out]; exact HR.out), by have := (HI6.out.setC (z ||| 2 ^ k)).drewN 1; rw [← set_bit hk64 hz] at this; exact this⟩
                | false =>
                  go_wp2
                  go_roundg (64 - (k + 1))
                  case measure => have := HG.out; have := low_ge HA1.out Hk.out.1; omega
                  case rel =>
                    exact ⟨k + 1, a &&& (a - 1), z, rfl, by omega, clear_low ha1 ha, and_lt ha, hz, low_set HA1.out Hk.out.1 Hk.out.2.1 Hk.out.2.2, clo_skip HA1.out HZ1.out Hk.out.1 Hk.out.2.1 (by rw [HPD.out]; exact HR.out), HI6.out⟩
          · have hin : i = n := by omega
            subst hin
            have hj := join47_c (comps b hs i i) Bk i wr (fun j l hl => HO.out.1.cell hl) HO.out.2.2 (by rw [comps_length]; exact Nat.le_refl _) (by rw [comps_length]; omega) (fun l hl => comps_len HB.out i l hl)
            rw [comps_length] at hj
            have hjl : (Lib.join (comps b hs i i) [47]).length ≤ 400020000 := join47_len (by rw [comps_length]; omega) (fun l hl => comps_len HB.out i l hl)
            have hv : Hid (leastVal b hs = .tuple #[.string (⟨#[47, 47]⟩ ++ bs (Lib.join (comps b hs i i) [47])), .bool true, .int .i64 0]) := by
              show leastVal b hs = _
              rw [leastVal, if_neg (by rw [Hnn.out]; exact Hn0.out), Hnn.out, leastStr, bs_append]
              rfl
            go_wp2_with (go_at_call 43; refine hj.mono ?_; rintro e w8 ⟨rfl, hc8⟩)
            go_ret3
            exact ⟨by rw [hv.out]; rfl, HC.out.trans (HO.out.2.1.trans hc8)⟩
end Go.Proofs.YtdndfkoklhfffaaGreatDoor
