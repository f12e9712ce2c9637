/- Walks: the reference's Order of two paths. -/
import Derived.Test.YtdndfkoklhfffaaDoorRMatch
import Derived.Test.YtdndfkoklhfffaaDoorWalkG
import Derived.Test.YtdndfkoklhfffaaDoorOrd
import Derived.IntWalk
set_option linter.unusedVariables false
set_option linter.unusedSimpArgs false
namespace Go.Proofs.YtdndfkoklhfffaaDoor
open Go Go.RowKit Sy

theorem quietAddL {P : Program} {f : FuncId} {args : Array Value} {w : World} {a n : Nat} {v : Value} (h : Calls P f args (w.drewN (a + n)) fun e w' => e = .returned v ∧ w.drewN (a + n) = w') :
    Calls P f args (w.drewN (a + n)) fun e w'' => e = .returned v ∧ ∃ m, w'' = w.drewN (a + m) :=
  h.mono fun _ _ ⟨he, hm⟩ => ⟨he, n, hm.symm⟩
theorem ordZip_drop {a b : List Str} {k : Nat} {x y : Str} (hx : a[k]? = some x) (hy : b[k]? = some y) : ordZip (a.drop k) (b.drop k) = if x.length ≠ y.length then (x.length : Int) - (y.length : Int) else if Lib.compareBytes x y ≠ 0 then Lib.compareBytes x y else ordZip (a.drop (k + 1)) (b.drop (k + 1)) := by
  obtain ⟨h1, e1⟩ := List.getElem?_eq_some_iff.1 hx
  obtain ⟨h2, e2⟩ := List.getElem?_eq_some_iff.1 hy
  rw [List.drop_eq_getElem_cons h1, List.drop_eq_getElem_cons h2, e1, e2, ordZip]
theorem compare_c (x y : Str) (w : World) : Calls Tryd.prog 50 #[.string (bs x), .string (bs y)] w fun e w' => e = .returned (.int .i64 (Lib.compareBytes x y)) ∧ w = w' :=
  (Tryd.strings_Compare (bs x) (bs y) w).mono fun _ _ ⟨he, hw⟩ => ⟨by rw [he, bs_toList, bs_toList], hw.symm⟩

set_option maxHeartbeats 2000000 in
theorem order_c (p q : Str) (a b : List Str) (w : World) (hp : p.length ≤ 3000000) (hq : q.length ≤ 3000000) (ha : pathOf p = some a) (hb : pathOf q = some b) (hM : MaxL w) :
    Calls Tryd.prog 21 #[.string (bs p), .string (bs q)] w fun e w' => e = .returned (.int .i64 (ordL a b)) ∧ Calm w w' := by
  have h1 := rpath_yes p a w hp hM ha
  have HM := Lib.hid hM
  have H2 := Lib.hid (fun W (hW : Calm w W) => rpath_yes q b W hq (hM.calm hW) hb)
  obtain ⟨n, hn⟩ : ∃ n, a.length = n := ⟨_, rfl⟩
  obtain ⟨m, hm⟩ : ∃ m, b.length = m := ⟨_, rfl⟩
  have hbig : ∀ {s : Str} {l : List Str}, pathOf s = some l → s.length ≤ 3000000 → l.length ≤ 3000001 := fun {s l} h hs => by
    obtain ⟨h2, h3, h4⟩ := pathOf_some h
    have hh : l = slash (Lib.join l [47]) := (slash_join l (by rintro rfl; simp at h2) (fun x hx => comp_no47 (List.all_eq_true.1 h3 x hx))).symm
    have := slash_len (Lib.join l [47])
    rw [← hh] at this
    rw [h4] at hs
    simp only [pathStr, List.length_cons] at hs
    omega
  have hn3 := hbig ha hp
  have hm3 := hbig hb hq
  rw [hn] at h1 hn3
  rw [hm] at H2 hm3
  have HN := Lib.hid (And.intro hn hm)
  clear ha hb hM hbig
  go_enter Tryd.func21, Tryd.ntmps21
  by_cases hnm : n = m
  · obtain rfl : n = m := hnm
    have hbn : ((n : Int) != (n : Int)) = false := by simp
    go_wp2_with fail
    refine h1.mono ?_
    rintro e w2 ⟨rfl, hc2, hst2⟩
    go_wp2_with fail
    refine (H2.out _ hc2).mono ?_
    rintro e w3 ⟨rfl, hc3, hst3⟩
    have HA := Lib.hid (hst2.calm hc3)
    have HB := Lib.hid hst3
    have HC := Lib.hid (hc2.trans hc3)
    obtain ⟨B2, hB2⟩ : ∃ B2, w2.heap.size = B2 := ⟨_, rfl⟩
    have HB2 := Lib.hid hB2
    rw [hB2]
    rw [hB2] at HB
    clear h1 hc2 hc3 hst2 hst3 hB2
    go_wp2_with fail
    go_loopw [33] (fun i wr => ∃ k : Nat, k ≤ n ∧ i = .int .i64 k ∧ Hid (ordL a b = ordZip (a.drop k) (b.drop k)) ∧ Hid (Calm w3 wr)) (fun i _ => n - (intOf i).toNat)
    case atStart => exact ⟨0, Nat.zero_le _, rfl, (by show ordL a b = _; rw [ordL, HN.out.1, HN.out.2, if_neg (by simp)]; rfl), Calm.refl _⟩
    case round =>
      obtain ⟨k, hk, rfl, HO, HCr⟩ := hrel
      by_cases hlt : k < n
      · obtain ⟨b1, o1, x, hA1, hb1, hx, hxl, hxc⟩ := (HA.out.calm HCr.out).get (k := k) (by rw [HN.out.1]; exact hlt)
        obtain ⟨rfl, rfl⟩ : w.heap.size = b1 ∧ 0 = o1 := by simpa using hA1
        obtain ⟨b2, o2, y, hA2, hb2, hy, hyl, hyc⟩ := (HB.out.calm HCr.out).get (k := k) (by rw [HN.out.2]; exact hlt)
        obtain ⟨rfl, rfl⟩ : B2 = b2 ∧ 0 = o2 := by simpa using hA2
        rw [Nat.zero_add] at hxc hyc
        have hz := ordZip_drop hx hy
        have HZ := Lib.hid hz
        have hi0 : (0 : Int) ≤ (k : Int) := by omega
        have hi1 : (k : Int) < (n : Int) := by omega
        clear hA1 hA2 hx hy hz
        by_cases hl : x.length = y.length
        · have hlb : ((x.length : Int) != (y.length : Int)) = false := by simp [hl]
          have HL := Lib.hid hl
          clear hl
          obtain ⟨v, hv⟩ : ∃ v, Lib.compareBytes x y = v := ⟨_, rfl⟩
          have hcmp := compare_c x y
          rw [hv] at hcmp
          have HV := Lib.hid hv
          clear hv
          by_cases hv0 : v = 0
          · subst hv0
            have hO2 : Hid (ordL a b = ordZip (a.drop (k + 1)) (b.drop (k + 1))) := by
              show ordL a b = _
              rw [HO.out, HZ.out, if_neg (by simp [HL.out]), HV.out, if_neg (by simp)]
            go_wp2_with fail
            go_quiet (fail)
            go_wp2_with fail
            go_quiet ((go_at_call 50; exact quietAddL (hcmp _)))
            go_wp2
            go_roundw
            case rel => exact ⟨k + 1, by omega, by go_num, hO2, HCr.out.drewN _⟩
            case measure => simp [intOf]; omega
          · have hvb : (v != 0) = true := by simpa using hv0
            have hO2 : Hid (ordL a b = v) := by
              show ordL a b = v
              rw [HO.out, HZ.out, if_neg (by simp [HL.out]), HV.out, if_pos hv0]
            clear hv0
            go_wp2_with fail
            go_quiet (fail)
            go_wp2_with fail
            go_quiet ((go_at_call 50; exact quietAddL (hcmp _)))
            go_wp2
            go_ret
            exact ⟨ret_int (by rw [hO2.out]), HC.out.trans (HCr.out.drewN _)⟩
        · have hlb : ((x.length : Int) != (y.length : Int)) = true := by simp; omega
          have hsub : IntKind.i64.wrap ((x.length : Int) - (y.length : Int)) = (x.length : Int) - (y.length : Int) := IntWalk.i64_in _ (by omega)
          have HL := Lib.hid hl
          clear hl
          go_wp2_with fail
          go_quiet (fail)
          go_wp2_with fail
          go_quiet (fail)
          go_wp2
          go_ret
          exact ⟨ret_int (by rw [HO.out, HZ.out, if_pos (by simpa using HL.out)]), HC.out.trans ((HCr.out.drewN _).drewN _)⟩
      · have hkn : n ≤ k := by omega
        have hv : Hid (ordL a b = 0) := by
          show ordL a b = 0
          rw [HO.out, List.drop_of_length_le (by rw [HN.out.1]; omega)]
          rfl
        go_wp2
        go_ret
        exact ⟨ret_int (by rw [hv.out]), HC.out.trans HCr.out⟩
  · have hbn : ((n : Int) != (m : Int)) = true := by simp; omega
    have hv : Hid (ordL a b = (n : Int) - (m : Int)) := by
      show ordL a b = _
      rw [ordL, HN.out.1, HN.out.2, if_pos hnm]
    have HNm := Lib.hid hnm
    clear hnm
    go_wp2_with fail
    refine h1.mono ?_
    rintro e w2 ⟨rfl, hc2, hst2⟩
    go_wp2_with fail
    refine (H2.out _ hc2).mono ?_
    rintro e w3 ⟨rfl, hc3, hst3⟩
    go_wp2_with fail
    go_ret
    exact ⟨ret_int (by rw [hv.out]), hc2.trans hc3⟩
end Go.Proofs.YtdndfkoklhfffaaDoor
