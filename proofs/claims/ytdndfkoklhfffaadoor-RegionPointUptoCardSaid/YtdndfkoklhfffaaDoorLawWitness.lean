/- Walks: the law on the least path as a witness. -/
import Derived.Test.YtdndfkoklhfffaaDoorLawChecks
import Derived.Test.YtdndfkoklhfffaaDoorOrder
set_option linter.unusedVariables false
set_option linter.unusedSimpArgs false
namespace Go.Proofs.YtdndfkoklhfffaaDoor
open Go Go.RowKit Sy

theorem pick_each {b : Pat} {K : Nat} (h1 : 1 ≤ K) (hK : ∀ x ∈ b.parts, x.length ≤ K) (hs : List Pat) (n : Nat) (c : List Str) : (pick b hs n c).length ≤ K := by
  have hp : (pAt b c.length).length ≤ K := by
    rcases Nat.lt_or_ge c.length b.parts.length with h | h
    · have : pAt b c.length = b.parts[c.length] := by simp [pAt, List.getD_eq_getElem?_getD, List.getElem?_eq_getElem h]
      rw [this]
      exact hK _ (List.getElem_mem h)
    · rw [pAt_out h]
      simpa using h1
  unfold pick
  rcases hst : isStar (pAt b c.length) with _ | _
  · simp only [hst, Bool.false_eq_true, if_false]
    exact hp
  · simp only [hst, if_true, List.length_cons, List.length_tail]
    have : 1 ≤ (pAt b c.length).length := by
      cases hq : pAt b c.length with
      | nil => rw [hq] at hst; cases hst
      | cons a t => simp
    omega
theorem comps_each {b : Pat} {K : Nat} (h1 : 1 ≤ K) (hK : ∀ x ∈ b.parts, x.length ≤ K) (hs : List Pat) (n : Nat) : ∀ k, ∀ x ∈ comps b hs n k, x.length ≤ K
  | 0, x, hx => by cases hx
  | k + 1, x, hx => by
    rcases List.mem_append.1 hx with h | h
    · exact comps_each h1 hK hs n k x h
    · rw [List.mem_singleton.1 h]
      exact pick_each h1 hK hs n _
theorem foldl_max_le {hs : List Pat} {K : Nat} : ∀ (m : Nat), m ≤ K → (∀ h ∈ hs, h.parts.length + 1 ≤ K) → hs.foldl (fun m h => max m (h.parts.length + 1)) m ≤ K := by
  induction hs with
  | nil => intro m hm _; exact hm
  | cons a hs ih =>
    intro m hm hh
    rw [List.foldl_cons]
    have := hh a (by simp)
    exact ih _ (by omega) (fun h hx => hh h (by simp [hx]))
theorem least_small {b : Pat} {hs : List Pat} (hb : b.parts.length ≤ 12) (hh : ∀ h ∈ hs, h.parts.length ≤ 12) (h : leastLen b hs ≠ 0) : leastLen b hs ≤ 13 := by
  have h1 := (seek_in (b := b) (hs := hs) (lastLen b hs + 1 - firstLen b) (firstLen b) h).2
  have h2 : seek b hs (firstLen b) (lastLen b hs + 1 - firstLen b) = leastLen b hs := rfl
  rw [h2] at h1
  have h3 : lastLen b hs ≤ 13 := by
    unfold lastLen
    split
    · exact foldl_max_le _ (by omega) (fun h hx => by have := hh h hx; omega)
    · omega
  have h4 : firstLen b ≤ 13 := by unfold firstLen; split <;> omega
  omega
theorem least_strlen {b : Pat} {hs : List Pat} (hb : b.parts.length ≤ 12) (hh : ∀ h ∈ hs, h.parts.length ≤ 12) (hK : ∀ x ∈ b.parts, x.length ≤ 60) (h : leastLen b hs ≠ 0) : (pathStr (comps b hs (leastLen b hs) (leastLen b hs))).length ≤ 10000 := by
  have h1 := least_small hb hh h
  have h2 := join_len [47] (comps b hs (leastLen b hs) (leastLen b hs)) (K := 60) (fun x hx => comps_each (by decide) hK hs _ _ x hx)
  rw [comps_length] at h2
  have h3 : leastLen b hs * (60 + [47].length) ≤ 13 * 61 := Nat.mul_le_mul h1 (Nat.le_refl _)
  simp only [pathStr, List.length_cons]
  have := Nat.le_trans h2 h3
  omega
theorem regErr_parts {b : Pat} {hs : List Pat} (h : regErr b hs = 0) : patErr b = 0 ∧ (∀ q ∈ hs, patErr q = 0) ∧ hs.length ≤ 64 := by
  rw [regErr] at h
  split at h
  · omega
  · rename_i h0
    split at h
    · omega
    · rename_i h1
      split at h
      · omega
      · rename_i h2
        refine ⟨by simpa using h0, fun q hq => ?_, by omega⟩
        have h4 : hs.any (fun h => patErr h != 0) = false := by simpa using h1
        rw [List.any_eq_false] at h4
        simpa using h4 q hq
theorem patErr_pos {p : Pat} (h : patErr p = 0) : 0 < p.parts.length := by
  unfold patErr at h
  split at h
  · cases h
  · rename_i h0
    rcases Nat.eq_zero_or_pos p.parts.length with h1 | h1
    · exact absurd (.inl h1) h0
    · exact h1

set_option maxRecDepth 100000 in
set_option maxHeartbeats 4000000 in
theorem witness_c (b : Pat) (hs : List Pat) (s : Str) (A : Option Addr) (c : Nat) (HA : Option Addr) (hc : Nat) (w : World) (hsz : s.length ≤ 9223372036854775807) (hb : StrsG w A b.parts) (hh : PatsG w HA hs) (hbc : b.parts.length ≤ c) (hcc : c ≤ 140737488355328) (hhc : hs.length ≤ hc) (hhcc : hc ≤ 140737488355328) (hT : Tab w) (hM : MaxL w) :
    Calls Tryd.prog 6 #[.agg #[.slice A b.parts.length c, .bool b.rest, .slice HA hs.length hc], .string (bs s)] w fun e w' => e = .returned (.bool true) ∧ Calm w w' := by
  obtain ⟨hn, hhn⟩ : ∃ hn, hs.length = hn := ⟨_, rfl⟩
  obtain ⟨bn, hbn⟩ : ∃ bn, b.parts.length = bn := ⟨_, rfl⟩
  obtain ⟨br, hbr⟩ : ∃ br, b.rest = br := ⟨_, rfl⟩
  obtain ⟨w1, hw1⟩ : ∃ w1, w1 = w.alloc (.cells #[.slice A bn c, .bool br, .slice HA hn hc] 27) := ⟨_, rfl⟩
  have hc1 : Calm w w1 := by rw [hw1]; exact (Calm.refl w).alloc _
  have hs1 : w.heap.size < w1.heap.size := by rw [hw1]; simp
  have k0 : w1.cell? ⟨w.heap.size, 0, none⟩ = some (.slice A bn c) := by rw [hw1]; simp
  have k1 : w1.cell? ⟨w.heap.size, 1, none⟩ = some (.bool br) := by rw [hw1]; simp
  have k2 : w1.cell? ⟨w.heap.size, 2, none⟩ = some (.slice HA hn hc) := by rw [hw1]; simp
  have hsm := small_c b hs A c HA hc w1 (hb.calm hc1) (hh.calm hc1) hbc hcc hhc hhcc
  rw [hhn, hbn, hbr] at hsm
  have HW := Lib.hid hw1
  have HC := Lib.hid hc1
  have HT := Lib.hid (hT.calm hc1)
  have HM := Lib.hid (hM.calm hc1)
  have HK := Lib.hid (And.intro k0 (And.intro k1 k2))
  have HReg : Hid (SmallB b hs → RegA w1 A c HA b hs) := fun h => h.reg (hb.calm hc1) (hh.calm hc1) hbc hcc
  have HN : Hid (hs.length = hn ∧ b.parts.length = bn ∧ b.rest = br) := ⟨hhn, hbn, hbr⟩
  rw [hhn, hbn, hbr]
  clear hw1 hc1 k0 k1 k2 hb hh hT hM hhn hbn hbr hbc
  go_enter Tryd.func6, Tryd.ntmps6
  by_cases h300 : s.length ≤ 300
  · go_wp2_with fail
    rw [← HW.out]
    refine hsm.mono ?_
    rintro e w2 ⟨⟨r, rfl, hr⟩, hc2⟩
    have l0 := hc2.at_ HK.out.1 hs1
    have l1 := hc2.at_ HK.out.2.1 hs1
    have l2 := hc2.at_ HK.out.2.2 hs1
    cases r with
    | false =>
      go_wp2_with (go_at_call 11; refine (awake_c _ (HT.out.calm hc2)).mono ?_; rintro e w3 ⟨rfl, hc3⟩)
      go_ret
      exact ⟨rfl, HC.out.trans (hc2.trans hc3)⟩
    | true =>
      have hsb := hr rfl
      have hreg := HReg.out hsb
      obtain ⟨v, hv⟩ : ∃ v, regErr b hs = v := ⟨_, rfl⟩
      have KC : Hid (∀ W, Calm w1 W → Calls Tryd.prog 17 #[.agg #[.slice A bn c, .bool br, .slice HA hn hc]] W fun e w' => e = .returned (.int .i64 v) ∧ Calm W w') := fun W hW => by
        have h := hreg.calm hW
        have := gcheck_c b hs A c HA hc W h.base h.room h.cap h.holes
        rw [hv, HN.out.1, HN.out.2.1, HN.out.2.2] at this
        exact this
      by_cases hv0 : v = 0
      · subst hv0
        obtain ⟨hpb, hph, h64⟩ := regErr_parts hv
        have KH : Hid (∀ t r W, Calm w1 W → t.length ≤ 10000 → hasR b hs t = r → Calls Tryd.prog 19 #[.agg #[.slice A bn c, .bool br, .slice HA hn hc], .string (bs t)] W fun e w' => e = .returned (.bool r) ∧ Calm W w') := fun t r W hW ht hr => by
          have h := hreg.calm hW
          have := has_c b hs t A c HA hc W ht h.base h.room h.cap h.holes (HM.out.calm hW)
          rw [hasV, hv, hasS_hasR hpb hph, hr, HN.out.1, HN.out.2.1, HN.out.2.2] at this
          exact this
        obtain ⟨z, hz⟩ : ∃ z, hasR b hs s = z := ⟨_, rfl⟩
        have KS : Hid (∀ W, Calm w1 W → Calls Tryd.prog 19 #[.agg #[.slice A bn c, .bool br, .slice HA hn hc], .string (bs s)] W fun e w' => e = .returned (.bool z) ∧ Calm W w') := fun W hW => KH.out s z W hW (by omega) hz
        by_cases hl0 : leastLen b hs = 0
        · have KE : Hid (∀ W, Calm w1 W → Calls Tryd.prog 12 #[.agg #[.slice A bn c, .bool br, .slice HA hn hc]] W fun e w' => e = .returned (.tuple #[.bool true, .int .i64 0]) ∧ Calm W w') := fun W hW => by
            have h := hreg.calm hW
            have := empty_v b hs true 0 A c HA hc W h.base h.room h.cap h.holes hv (by rw [hl0]; rfl)
            rw [HN.out.1, HN.out.2.1, HN.out.2.2] at this
            exact this
          have KL : Hid (∀ W, Calm w1 W → Calls Tryd.prog 13 #[.agg #[.slice A bn c, .bool br, .slice HA hn hc]] W fun e w' => e = .returned (.tuple #[.string (bs []), .bool false, .int .i64 0]) ∧ Calm W w') := fun W hW => by
            have h := hreg.calm hW
            have := least_c b hs A c HA hc W h.base h.room h.cap h.holes (HT.out.calm hW) hv h64
            rw [HN.out.1, HN.out.2.1, HN.out.2.2, leastVal, if_pos hl0] at this
            exact this
          have KN : Hid (∀ W, Calm w1 W → Calls Tryd.prog 19 #[.agg #[.slice A bn c, .bool br, .slice HA hn hc], .string (bs [])] W fun e w' => e = .returned (.bool false) ∧ Calm W w') := fun W hW => KH.out [] false W hW (by simp) rfl
          have hzf : z = false := by
            rw [← hz, hasR]
            rcases hpo : pathOf s with _ | l
            · rfl
            · exact least_none (patErr_pos hpb) hl0 (pathOf_some hpo).2.1
          subst hzf
          clear hreg hr hsm hv HReg hz hl0 hpb hph h64 hsb KH
          go_wp2_with (first
            | (go_at_call 17; refine (KC.out _ hc2).mono ?_; rintro e w3 ⟨rfl, hc3⟩; have hc13 := hc2.trans hc3; have m0 := hc13.at_ HK.out.1 hs1; have m1 := hc13.at_ HK.out.2.1 hs1; have m2 := hc13.at_ HK.out.2.2 hs1)
            | (go_at_call 12; refine (KE.out _ hc13).mono ?_; rintro e w4 ⟨rfl, hc4⟩; have hc14 := hc13.trans hc4; have n0 := hc14.at_ HK.out.1 hs1; have n1 := hc14.at_ HK.out.2.1 hs1; have n2 := hc14.at_ HK.out.2.2 hs1)
            | (go_at_call 13; refine (KL.out _ hc14).mono ?_; rintro e w5 ⟨rfl, hc5⟩; have hc15 := hc14.trans hc5; have o0 := hc15.at_ HK.out.1 hs1; have o1 := hc15.at_ HK.out.2.1 hs1; have o2 := hc15.at_ HK.out.2.2 hs1))
          refine (KN.out _ hc15).mono ?_
          rintro e w6 ⟨rfl, hc6⟩
          have hc16 := hc15.trans hc6
          have x0 := hc16.at_ HK.out.1 hs1
          have x1 := hc16.at_ HK.out.2.1 hs1
          have x2 := hc16.at_ HK.out.2.2 hs1
          go_wp2_with fail
          refine (KS.out _ hc16).mono ?_
          rintro e w7 ⟨rfl, hc7⟩
          have hc17 := hc16.trans hc7
          go_wp2_with (go_at_call 11; refine (awake_c _ (HT.out.calm hc17)).mono ?_; rintro e w8 ⟨rfl, hc8⟩)
          go_ret
          exact ⟨rfl, HC.out.trans (hc17.trans hc8)⟩
        · have hab := allOk_of hpb
          have hin := least_in hab h64 hl0
          have hcc2 := comps_comp hab hs (leastLen b hs) (leastLen b hs)
          have hcl := comps_length b hs (leastLen b hs) (leastLen b hs)
          have hLl := least_strlen (hs := hs) (patErr_len hpb) (fun h hx => patErr_len (hph h hx)) hsb.strs hl0
          obtain ⟨n, hnn⟩ : ∃ n, leastLen b hs = n := ⟨_, rfl⟩
          have hn2 : 2 ≤ n := by
            have h1 := least_reaches hl0
            rw [hnn] at h1
            unfold reaches at h1
            have h2 := patErr_pos hpb
            split at h1
            · have := of_decide_eq_true h1
              omega
            · rename_i hre
              have h3 := beq_iff_eq.1 h1
              have h4 : ¬ (b.parts.length = 1 ∧ b.rest = false) := by
                intro h
                have : patErr b = 30 := by rw [patErr, if_pos (.inr h)]
                rw [hpb] at this
                cases this
              have : b.rest = false := by simpa using hre
              have : ¬ b.parts.length = 1 := fun h => h4 ⟨h, this⟩
              omega
          have KE : Hid (∀ W, Calm w1 W → Calls Tryd.prog 12 #[.agg #[.slice A bn c, .bool br, .slice HA hn hc]] W fun e w' => e = .returned (.tuple #[.bool false, .int .i64 0]) ∧ Calm W w') := fun W hW => by
            have h := hreg.calm hW
            have := empty_v b hs false 0 A c HA hc W h.base h.room h.cap h.holes hv (by simp [hl0])
            rw [HN.out.1, HN.out.2.1, HN.out.2.2] at this
            exact this
          have hpo : pathOf (pathStr (comps b hs n n)) = some (comps b hs n n) := by
            rw [hnn] at hcc2 hcl
            exact pathOf_str (by rw [hcl]; exact hn2) hcc2
          obtain ⟨L, hL⟩ : ∃ L, pathStr (comps b hs n n) = L := ⟨_, rfl⟩
          have KL : Hid (∀ W, Calm w1 W → Calls Tryd.prog 13 #[.agg #[.slice A bn c, .bool br, .slice HA hn hc]] W fun e w' => e = .returned (.tuple #[.string (bs L), .bool true, .int .i64 0]) ∧ Calm W w') := fun W hW => by
            have h := hreg.calm hW
            have := least_c b hs A c HA hc W h.base h.room h.cap h.holes (HT.out.calm hW) hv h64
            have hls : leastStr b hs (leastLen b hs) = L := by rw [← hL, ← hnn]; rfl
            rw [HN.out.1, HN.out.2.1, HN.out.2.2, leastVal, if_neg hl0, hls] at this
            exact this
          rw [hnn, hL] at hLl
          rw [hL] at hpo
          have hinR : hasR b hs L = true := by
            rw [hasR, hpo]
            rw [hnn] at hin
            exact hin
          have KN : Hid (∀ W, Calm w1 W → Calls Tryd.prog 19 #[.agg #[.slice A bn c, .bool br, .slice HA hn hc], .string (bs L)] W fun e w' => e = .returned (.bool true) ∧ Calm W w') := fun W hW => KH.out L true W hW hLl hinR
          rcases z with _ | _
          · clear hreg hr hsm hv HReg hz hl0 hpb hph h64 hsb KH hab hin hcc2 hcl hLl hpo hL hinR hnn
            go_wp2_with (first
              | (go_at_call 17; refine (KC.out _ hc2).mono ?_; rintro e w3 ⟨rfl, hc3⟩; have hc13 := hc2.trans hc3; have m0 := hc13.at_ HK.out.1 hs1; have m1 := hc13.at_ HK.out.2.1 hs1; have m2 := hc13.at_ HK.out.2.2 hs1)
              | (go_at_call 12; refine (KE.out _ hc13).mono ?_; rintro e w4 ⟨rfl, hc4⟩; have hc14 := hc13.trans hc4; have n0 := hc14.at_ HK.out.1 hs1; have n1 := hc14.at_ HK.out.2.1 hs1; have n2 := hc14.at_ HK.out.2.2 hs1)
              | (go_at_call 13; refine (KL.out _ hc14).mono ?_; rintro e w5 ⟨rfl, hc5⟩; have hc15 := hc14.trans hc5; have o0 := hc15.at_ HK.out.1 hs1; have o1 := hc15.at_ HK.out.2.1 hs1; have o2 := hc15.at_ HK.out.2.2 hs1))
            refine (KN.out _ hc15).mono ?_
            rintro e w6 ⟨rfl, hc6⟩
            have hc16 := hc15.trans hc6
            have x0 := hc16.at_ HK.out.1 hs1
            have x1 := hc16.at_ HK.out.2.1 hs1
            have x2 := hc16.at_ HK.out.2.2 hs1
            go_wp2_with fail
            refine (KS.out _ hc16).mono ?_
            rintro e w7 ⟨rfl, hc7⟩
            have hc17 := hc16.trans hc7
            go_wp2_with (go_at_call 11; refine (awake_c _ (HT.out.calm hc17)).mono ?_; rintro e w8 ⟨rfl, hc8⟩)
            go_ret
            exact ⟨rfl, HC.out.trans (hc17.trans hc8)⟩
          · obtain ⟨l, hl⟩ : ∃ l, pathOf s = some l := by
              rw [hasR] at hz
              rcases hps : pathOf s with _ | l
              · rw [hps] at hz
                cases hz
              · exact ⟨l, rfl⟩
            have hle : ordL (comps b hs n n) l ≤ 0 := by
              rw [hasR, hl] at hz
              have := least_order (patErr_pos hpb) hab (pathOf_some hl).2.1 hz
              rw [hnn] at this
              exact this
            have KO : Hid (∀ W, Calm w1 W → Calls Tryd.prog 21 #[.string (bs L), .string (bs s)] W fun e w' => e = .returned (.int .i64 (ordL (comps b hs n n) l)) ∧ Calm W w') := fun W hW => order_c L s _ l W (by omega) (by omega) hpo hl (HM.out.calm hW)
            obtain ⟨o, ho⟩ : ∃ o, ordL (comps b hs n n) l = o := ⟨_, rfl⟩
            rw [ho] at KO hle
            clear hreg hr hsm hv HReg hz hl0 hpb hph h64 hsb KH hab hin hcc2 hcl hLl hpo hL hinR hnn hl ho
            go_wp2_with (first
              | (go_at_call 17; refine (KC.out _ hc2).mono ?_; rintro e w3 ⟨rfl, hc3⟩; have hc13 := hc2.trans hc3; have m0 := hc13.at_ HK.out.1 hs1; have m1 := hc13.at_ HK.out.2.1 hs1; have m2 := hc13.at_ HK.out.2.2 hs1)
              | (go_at_call 12; refine (KE.out _ hc13).mono ?_; rintro e w4 ⟨rfl, hc4⟩; have hc14 := hc13.trans hc4; have n0 := hc14.at_ HK.out.1 hs1; have n1 := hc14.at_ HK.out.2.1 hs1; have n2 := hc14.at_ HK.out.2.2 hs1)
              | (go_at_call 13; refine (KL.out _ hc14).mono ?_; rintro e w5 ⟨rfl, hc5⟩; have hc15 := hc14.trans hc5; have o0 := hc15.at_ HK.out.1 hs1; have o1 := hc15.at_ HK.out.2.1 hs1; have o2 := hc15.at_ HK.out.2.2 hs1))
            refine (KN.out _ hc15).mono ?_
            rintro e w6 ⟨rfl, hc6⟩
            have hc16 := hc15.trans hc6
            have x0 := hc16.at_ HK.out.1 hs1
            have x1 := hc16.at_ HK.out.2.1 hs1
            have x2 := hc16.at_ HK.out.2.2 hs1
            go_wp2_with fail
            refine (KS.out _ hc16).mono ?_
            rintro e w7 ⟨rfl, hc7⟩
            have hc17 := hc16.trans hc7
            go_wp2_with (first
              | (go_at_call 21; refine (KO.out _ hc17).mono ?_; rintro e w8 ⟨rfl, hc8⟩; have hc18 := hc17.trans hc8)
              | (go_at_call 11; refine (awake_c _ (HT.out.calm hc18)).mono ?_; rintro e w9 ⟨rfl, hc9⟩))
            go_ret
            exact ⟨rfl, HC.out.trans (hc18.trans hc9)⟩
      · have hvb : (v != 0) = true := by simpa using hv0
        clear hreg hr hsm hv HReg hv0 hsb
        go_wp2_with (first
          | (go_at_call 17; refine (KC.out _ hc2).mono ?_; rintro e w3 ⟨rfl, hc3⟩; have hc13 := hc2.trans hc3)
          | (go_at_call 11; refine (awake_c _ (HT.out.calm hc13)).mono ?_; rintro e w9 ⟨rfl, hc9⟩))
        go_ret
        exact ⟨rfl, HC.out.trans (hc13.trans hc9)⟩
  · go_wp2_with fail
    rw [← HW.out]
    refine hsm.mono ?_
    rintro e w2 ⟨⟨r, rfl, hr⟩, hc2⟩
    cases r
    all_goals
      go_wp2_with (go_at_call 11; refine (awake_c _ (HT.out.calm hc2)).mono ?_; rintro e w3 ⟨rfl, hc3⟩)
      go_ret
      exact ⟨rfl, HC.out.trans (hc2.trans hc3)⟩
end Go.Proofs.YtdndfkoklhfffaaDoor
