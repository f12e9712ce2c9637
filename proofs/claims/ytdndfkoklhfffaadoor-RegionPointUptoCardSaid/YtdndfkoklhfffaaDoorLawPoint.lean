/- Walks: the law on a single path as a region. -/
import Derived.Test.YtdndfkoklhfffaaDoorLawWitness
set_option linter.unusedVariables false
set_option linter.unusedSimpArgs false
namespace Go.Proofs.YtdndfkoklhfffaaDoor
open Go Go.RowKit Sy

/-- Has one of the first k holes the path? -/
def anyTo (ps : List Pat) (s : Str) (k : Nat) : Bool := (ps.take k).any fun h => matchS h s
theorem anyTo_succ {ps : List Pat} {s : Str} {k : Nat} {p : Pat} (h : ps[k]? = some p) : anyTo ps s (k + 1) = (anyTo ps s k || matchS p s) := by
  obtain ⟨hlt, he⟩ := List.getElem?_eq_some_iff.1 h
  simp only [anyTo, List.take_succ_eq_append_getElem hlt, List.any_append, he, List.any_cons, List.any_nil, Bool.or_false]
theorem any_matchL {ps : List Pat} {s : Str} {l : List Str} (hl : pathOf s = some l) (hp : ∀ q ∈ ps, patErr q = 0) : (ps.any fun h => matchS h s) = ps.any fun h => matchL h l := by
  rw [Bool.eq_iff_iff, List.any_eq_true, List.any_eq_true]
  constructor
  · rintro ⟨h, hm, he⟩
    refine ⟨h, hm, ?_⟩
    rw [matchS, hl] at he
    simp only at he
    rw [Bool.and_eq_true] at he
    exact he.2
  · rintro ⟨h, hm, he⟩
    refine ⟨h, hm, ?_⟩
    rw [matchS, hl]
    simp only
    rw [okPat_iff.2 (hp h hm), he]
    rfl

set_option maxRecDepth 100000 in
set_option maxHeartbeats 4000000 in
theorem point_c (ps : List Pat) (s : Str) (PA : Option Addr) (pc : Nat) (w : World) (hs1 : s.length ≤ 1048576) (hh : PatsG w PA ps) (hpc : ps.length ≤ pc) (hpcc : pc ≤ 140737488355328) (hT : Tab w) (hM : MaxL w) :
    Calls Tryd.prog 4 #[.string (bs s), .slice PA ps.length pc] w fun e w' => e = .returned (.bool true) ∧ Calm w w' := by
  obtain ⟨hn, hhn⟩ : ∃ hn, ps.length = hn := ⟨_, rfl⟩
  rw [hhn] at hpc ⊢
  have HN := Lib.hid hhn
  have HT := Lib.hid hT
  have HH := Lib.hid hh
  have HM := Lib.hid hM
  rcases hpo : pathOf s with _ | l
  · have hp := rpath_no s w (by omega) hM hpo
    clear hh hT hM hhn hpo
    go_enter Tryd.func4, Tryd.ntmps4
    go_wp2_with fail
    refine hp.mono ?_
    rintro e w2 ⟨rfl, hc2⟩
    go_wp2_with (go_at_call 11; refine (awake_c _ (HT.out.calm (hc2.alloc _))).mono ?_; rintro e w3 ⟨rfl, hc3⟩)
    go_ret
    exact ⟨rfl, (hc2.alloc _).trans hc3⟩
  · have hp := rpath_yes s l w (by omega) hM hpo
    obtain ⟨n, hnn⟩ : ∃ n, l.length = n := ⟨_, rfl⟩
    rw [hnn] at hp
    have HL := Lib.hid hnn
    have HPo := Lib.hid hpo
    clear hh hT hM hhn hpo hnn
    go_enter Tryd.func4, Tryd.ntmps4
    go_wp2_with fail
    refine hp.mono ?_
    rintro e w2 ⟨rfl, hc2, hst2⟩
    obtain ⟨w1, hw1⟩ : ∃ w1, w1 = w2.alloc (.cells #[.slice (some ⟨w.heap.size, 0, none⟩) n n, .bool false, .slice PA hn pc] 27) := ⟨_, rfl⟩
    have hc21 : Calm w2 w1 := by rw [hw1]; exact (Calm.refl w2).alloc _
    have hs1' : w2.heap.size < w1.heap.size := by rw [hw1]; simp
    have k0 : w1.cell? ⟨w2.heap.size, 0, none⟩ = some (.slice (some ⟨w.heap.size, 0, none⟩) n n) := by rw [hw1]; simp
    have k1 : w1.cell? ⟨w2.heap.size, 1, none⟩ = some (.bool false) := by rw [hw1]; simp
    have k2 : w1.cell? ⟨w2.heap.size, 2, none⟩ = some (.slice PA hn pc) := by rw [hw1]; simp
    have HW := Lib.hid hw1
    have HC1 := Lib.hid (hc2.trans hc21)
    have HK := Lib.hid (And.intro k0 (And.intro k1 k2))
    have HSt := Lib.hid (hst2.calm hc21)
    by_cases h300 : s.length ≤ 300
    · have hln : l.length ≤ 1048577 := by
        obtain ⟨h2, h3, h4⟩ := pathOf_some HPo.out
        have hhj : l = slash (Lib.join l [47]) := (slash_join l (by rintro rfl; simp at h2) (fun x hx => comp_no47 (List.all_eq_true.1 h3 x hx))).symm
        have := slash_len (Lib.join l [47])
        rw [← hhj] at this
        rw [h4] at h300
        simp only [pathStr, List.length_cons] at h300
        omega
      have hsm := small_c ⟨l, false⟩ ps (some ⟨w.heap.size, 0, none⟩) n PA pc w1 HSt.out (HH.out.calm HC1.out) (by show l.length ≤ n; rw [HL.out]; exact Nat.le_refl _) (by rw [← HL.out]; omega) (by rw [HN.out]; exact hpc) hpcc
      rw [HN.out] at hsm
      have hsm' : Calls Tryd.prog 10 #[.agg #[.slice (some ⟨w.heap.size, 0, none⟩) n n, .bool false, .slice PA hn pc]] w1 fun e w' => SmallEnd ⟨l, false⟩ ps e ∧ Calm w1 w' := by
        have e : (Pat.mk l false).parts.length = n := HL.out
        rw [e] at hsm
        exact hsm
      clear hw1 hc21 k0 k1 k2 hst2 hp hsm hln
      go_wp2_with fail
      rw [← HW.out]
      refine hsm'.mono ?_
      rintro e w3 ⟨⟨r, rfl, hr⟩, hc3⟩
      have l0 := hc3.at_ HK.out.1 hs1'
      have l1 := hc3.at_ HK.out.2.1 hs1'
      have l2 := hc3.at_ HK.out.2.2 hs1'
      cases r with
      | false =>
        go_wp2_with (go_at_call 11; refine (awake_c _ (HT.out.calm (HC1.out.trans hc3))).mono ?_; rintro e w4 ⟨rfl, hc4⟩)
        go_ret
        exact ⟨rfl, HC1.out.trans (hc3.trans hc4)⟩
      | true =>
        have hsb := hr rfl
        have hreg : RegA w1 (some ⟨w.heap.size, 0, none⟩) n PA ⟨l, false⟩ ps := hsb.reg HSt.out (HH.out.calm HC1.out) (by show l.length ≤ n; rw [HL.out]; exact Nat.le_refl _) (by have := hsb.base; have e : (Pat.mk l false).parts.length = n := HL.out; omega)
        obtain ⟨v, hv⟩ : ∃ v, regErr ⟨l, false⟩ ps = v := ⟨_, rfl⟩
        have eL : (Pat.mk l false).parts.length = n := HL.out
        have eN := HN.out
        have KC : Hid (∀ W, Calm w1 W → Calls Tryd.prog 17 #[.agg #[.slice (some ⟨w.heap.size, 0, none⟩) n n, .bool false, .slice PA hn pc]] W fun e w' => e = .returned (.int .i64 v) ∧ Calm W w') := fun W hW => by
          have h := hreg.calm hW
          have := gcheck_c ⟨l, false⟩ ps (some ⟨w.heap.size, 0, none⟩) n PA pc W h.base h.room h.cap h.holes
          rw [hv, eL, eN] at this
          exact this
        by_cases hv0 : v = 0
        · subst hv0
          obtain ⟨hpb, hph, h64⟩ := regErr_parts hv
          have hcl := (pathOf_some HPo.out).2.1
          have hany := any_matchL HPo.out hph
          have hlen : leastLen ⟨l, false⟩ ps = if (ps.any fun h => matchS h s) then 0 else n := by rw [point_least hcl, hany, HL.out]
          obtain ⟨z, hz⟩ : ∃ z, (ps.any fun h => matchS h s) = z := ⟨_, rfl⟩
          have hn0 : n ≠ 0 := by
            have := (pathOf_some HPo.out).1
            rw [HL.out] at this
            omega
          rw [hz] at hlen
          have KE : Hid (∀ W, Calm w1 W → Calls Tryd.prog 12 #[.agg #[.slice (some ⟨w.heap.size, 0, none⟩) n n, .bool false, .slice PA hn pc]] W fun e w' => e = .returned (.tuple #[.bool z, .int .i64 0]) ∧ Calm W w') := fun W hW => by
            have h := hreg.calm hW
            have := empty_v ⟨l, false⟩ ps z 0 (some ⟨w.heap.size, 0, none⟩) n PA pc W h.base h.room h.cap h.holes hv (by rw [hlen]; cases z <;> simp [hn0])
            rw [eL, eN] at this
            exact this
          have KL : Hid (∀ W, Calm w1 W → Calls Tryd.prog 13 #[.agg #[.slice (some ⟨w.heap.size, 0, none⟩) n n, .bool false, .slice PA hn pc]] W fun e w' => e = .returned (.tuple #[.string (bs (if z then [] else s)), .bool (!z), .int .i64 0]) ∧ Calm W w') := fun W hW => by
            have h := hreg.calm hW
            have := least_c ⟨l, false⟩ ps (some ⟨w.heap.size, 0, none⟩) n PA pc W h.base h.room h.cap h.holes (HT.out.calm (HC1.out.trans hW)) hv h64
            have hval : leastVal ⟨l, false⟩ ps = .tuple #[.string (bs (if z then [] else s)), .bool (!z), .int .i64 0] := by
              unfold leastVal
              rw [hlen]
              cases z with
              | true => rfl
              | false =>
                have hstr : leastStr ⟨l, false⟩ ps n = s := by
                  have h1 : leastStr ⟨l, false⟩ ps n = pathStr (comps ⟨l, false⟩ ps n n) := rfl
                  rw [h1]
                  have h2 := point_str hcl ps
                  rw [HL.out] at h2
                  rw [h2]
                  exact (pathOf_some HPo.out).2.2.symm
                simp only [Bool.false_eq_true, if_false]
                rw [if_neg hn0, hstr]
                rfl
            rw [hval, eL, eN] at this
            exact this
          have HZ := Lib.hid hz
          have HHo := Lib.hid hreg.holes
          clear hreg hr hsm' hv hz hlen hany hcl h64 hpb hph hsb eL eN hn0
          go_wp2_with (go_at_call 17; refine (KC.out _ hc3).mono ?_; rintro e w4 ⟨rfl, hc4⟩)
          have HC4 := Lib.hid (hc3.trans hc4)
          clear hc3 hc4 l0 l1 l2 KC
          go_loopw [8, 47] (fun t q wr => ∃ k : Nat, k ≤ hn ∧ q = .int .i64 k ∧ t = .bool (anyTo ps s k) ∧ Hid (Calm w1 wr)) (fun _ q _ => hn - (intOf q).toNat)
          case atStart => exact ⟨0, Nat.zero_le _, rfl, rfl, HC4.out⟩
          case round =>
            obtain ⟨k, hk, rfl, rfl, HCr⟩ := hrel
            by_cases hlt : k < hn
            · obtain ⟨bb, o, p, Ak, ck, rfl, _, hpk, h1, h2, h3, h4, h5⟩ := (HHo.out.calm HCr.out).get (k := k) (by rw [HN.out]; exact hlt)
              have hst := anyTo_succ (s := s) hpk
              have H5 := Lib.hid h5
              have HMr := Lib.hid (HM.out.calm (HC1.out.trans HCr.out))
              obtain ⟨t, ht⟩ : ∃ t, anyTo ps s k = t := ⟨_, rfl⟩
              obtain ⟨r2, hr2⟩ : ∃ r2, matchS p s = r2 := ⟨_, rfl⟩
              rw [ht, hr2] at hst
              rw [ht]
              have HSt2 := Lib.hid hst
              have HR2 := Lib.hid hr2
              clear hpk h5 hr2 hst ht
              cases t with
              | true =>
                go_wp2_with (go_at_call 18; refine (rmatch_b p s r2 _ _ _ (by omega) (H5.out.calm ((Calm.refl _).alloc _)) h3 h4 (HMr.out.calm ((Calm.refl _).alloc _)) HR2.out).mono ?_; rintro e w5 ⟨A5, n5, c5, rfl, hc5⟩)
                go_roundw
                case rel => exact ⟨k + 1, by omega, by go_num, (by rw [HSt2.out]; rfl), HCr.out.trans (((Calm.refl _).alloc _).trans hc5)⟩
                case measure => simp [intOf]; omega
              | false =>
                go_wp2_with (go_at_call 18; refine (rmatch_b p s r2 _ _ _ (by omega) (H5.out.calm ((Calm.refl _).alloc _)) h3 h4 (HMr.out.calm ((Calm.refl _).alloc _)) HR2.out).mono ?_; rintro e w5 ⟨A5, n5, c5, rfl, hc5⟩)
                go_roundw
                case rel => exact ⟨k + 1, by omega, by go_num, (by rw [HSt2.out]; rfl), HCr.out.trans (((Calm.refl _).alloc _).trans hc5)⟩
                case measure => simp [intOf]; omega
            · have hzk : anyTo ps s k = z := by
                rw [anyTo, List.take_of_length_le (by rw [HN.out]; omega)]
                exact HZ.out
              rw [hzk]
              have m0 := HCr.out.at_ HK.out.1 hs1'
              have m1 := HCr.out.at_ HK.out.2.1 hs1'
              have m2 := HCr.out.at_ HK.out.2.2 hs1'
              clear hzk
              cases z
              all_goals
                go_wp2_with (first
                  | (go_at_call 12; refine (KE.out _ HCr.out).mono ?_; rintro e w5 ⟨rfl, hc5⟩; have hc15 := HCr.out.trans hc5; have n0 := hc15.at_ HK.out.1 hs1'; have n1 := hc15.at_ HK.out.2.1 hs1'; have n2 := hc15.at_ HK.out.2.2 hs1')
                  | (go_at_call 13; refine (KL.out _ hc15).mono ?_; rintro e w6 ⟨rfl, hc6⟩; have hc16 := hc15.trans hc6)
                  | (go_at_call 11; refine (awake_c _ (HT.out.calm (HC1.out.trans hc16))).mono ?_; rintro e w7 ⟨rfl, hc7⟩))
                go_ret
                exact ⟨rfl, HC1.out.trans (hc16.trans hc7)⟩
        · have hvb : (v != 0) = true := by simpa using hv0
          clear hreg hr hsm' hv hv0 hsb eL eN
          go_wp2_with (first
            | (go_at_call 17; refine (KC.out _ hc3).mono ?_; rintro e w4 ⟨rfl, hc4⟩; have hc14 := hc3.trans hc4)
            | (go_at_call 11; refine (awake_c _ (HT.out.calm (HC1.out.trans hc14))).mono ?_; rintro e w9 ⟨rfl, hc9⟩))
          go_ret
          exact ⟨rfl, HC1.out.trans (hc14.trans hc9)⟩
    · clear hst2 hp k0 k1 k2
      go_wp2_with (go_at_call 11; refine (awake_c _ (HT.out.calm (hc2.alloc _))).mono ?_; rintro e w3 ⟨rfl, hc3⟩)
      go_ret
      exact ⟨rfl, (hc2.alloc _).trans hc3⟩
end Go.Proofs.YtdndfkoklhfffaaDoor
