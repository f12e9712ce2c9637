/- Walks: the reference's Same of patterns. -/
import Derived.Test.YtglnkpgfdjnhnaaGreatDoorZCopyP
set_option linter.unusedVariables false
set_option linter.unusedSimpArgs false
namespace Go.Proofs.YtglnkpgfdjnhnaaGreatDoor
open Go Go.RowKit Sy

theorem bs_inj {x y : Str} (h : bs x = bs y) : x = y := by
  have := congrArg (fun b : ByteArray => b.data.toList) h
  simpa [bs] using this
theorem pat_eq_of {p q : Pat} (hr : p.rest = q.rest) (hl : p.parts.length = q.parts.length) (h : ∀ (j : Nat) x y, p.parts[j]? = some x → q.parts[j]? = some y → x = y) : p = q := by
  obtain ⟨ps, pr⟩ := p
  obtain ⟨qs, qr⟩ := q
  simp only at hr hl h
  subst hr
  congr 1
  apply List.ext_getElem hl
  intro j h1 h2
  exact h j _ _ (List.getElem?_eq_getElem h1) (List.getElem?_eq_getElem h2)

set_option maxHeartbeats 2000000 in
theorem same_c (p q : Pat) (v : Bool) (A : Option Addr) (c : Nat) (A' : Option Addr) (c' : Nat) (w : World) (hp : StrsU w A p.parts) (hq : StrsU w A' q.parts) (hv : decide (p = q) = v) :
    Calls Tryz.prog 22 #[.agg #[.slice A p.parts.length c, .bool p.rest], .agg #[.slice A' q.parts.length c', .bool q.rest]] w fun e w' => e = .returned (.bool v) ∧ Calm w w' := by
  obtain ⟨n, hn⟩ : ∃ n, p.parts.length = n := ⟨_, rfl⟩
  obtain ⟨m, hm⟩ : ∃ m, q.parts.length = m := ⟨_, rfl⟩
  obtain ⟨re, hre⟩ : ∃ re, p.rest = re := ⟨_, rfl⟩
  obtain ⟨re', hre'⟩ : ∃ re', q.rest = re' := ⟨_, rfl⟩
  have hlen := hp.len
  have hlen' := hq.len
  obtain ⟨w1, hw1⟩ : ∃ w1, w1 = (w.alloc (.cells #[.slice A n c, .bool re] 36)).alloc (.cells #[.slice A' m c', .bool re'] 36) := ⟨_, rfl⟩
  have hc1 : Calm w w1 := by rw [hw1]; exact ((Calm.refl w).alloc _).alloc _
  have k3 : w1.cell? ⟨w.heap.size + 1, 0, none⟩ = some (.slice A' m c') := by rw [hw1]; simp [go_sem]
  have HP := Lib.hid (hp.calm hc1)
  have HQ := Lib.hid (hq.calm hc1)
  have HC := Lib.hid hc1
  have HW := Lib.hid hw1
  have HN := Lib.hid (And.intro hn (And.intro hm (And.intro hre hre')))
  have HV := Lib.hid hv
  rw [hn, hm, hre, hre']
  rw [hn] at hlen
  rw [hm] at hlen'
  clear hp hq hn hm hre hre' hv hc1 hw1
  by_cases hrr : re = re'
  · by_cases hnm : n = m
    · subst hrr hnm
      go_enter Tryz.func22, Tryz.ntmps22
      go_wp2
      rw [← HW.out]
      go_loop [24] (fun u => ∃ k : Nat, k ≤ n ∧ u = .int .i64 k ∧ Hid (∀ (j : Nat) x y, j < k → p.parts[j]? = some x → q.parts[j]? = some y → x = y)) (fun u => n - (intOf u).toNat)
      case atStart => exact ⟨0, Nat.zero_le _, rfl, fun j x y hj => absurd hj (Nat.not_lt_zero _)⟩
      case round =>
        obtain ⟨k, hk, rfl, HI⟩ := hrel
        by_cases hlt : k < n
        · obtain ⟨b, o, x, rfl, hb, hx, hxl, hcx⟩ := HP.out.get (k := k) (by rw [HN.out.1]; exact hlt)
          obtain ⟨b', o', y, rfl, hb', hy, hyl, hcy⟩ := HQ.out.get (k := k) (by rw [HN.out.2.1]; exact hlt)
          have HX := Lib.hid (And.intro hx hy)
          clear hx hy
          by_cases hxy : x = y
          · subst hxy
            go_wp2
            go_round
            case rel =>
              refine ⟨k + 1, by omega, by go_num, fun j z z' hj hz hz' => ?_⟩
              by_cases e : j = k
              · subst e
                rw [HX.out.1] at hz
                rw [HX.out.2] at hz'
                cases hz
                cases hz'
                rfl
              · exact HI.out j z z' (by omega) hz hz'
            case measure => simp [intOf]; omega
          · have hE : Hid (v = false) := by
              show v = false
              rw [← HV.out, decide_eq_false_iff_not]
              intro e
              have h1 := HX.out.1
              rw [e, HX.out.2] at h1
              exact hxy (Option.some.inj h1).symm
            have hb1 : (x == y) = false := by simpa using hxy
            clear hxy
            go_wp2
            go_ret
            exact ⟨ret_bool (by rw [hE.out]), HC.out⟩
        · obtain rfl : k = n := by omega
          have hE : Hid (v = true) := by
            show v = true
            rw [← HV.out, decide_eq_true_eq]
            exact pat_eq_of (HN.out.2.2.1.trans HN.out.2.2.2.symm) (HN.out.1.trans HN.out.2.1.symm) fun j x y hx hy => HI.out j x y (by rw [← HN.out.1]; exact (List.getElem?_eq_some_iff.1 hx).1) hx hy
          go_wp2
          go_ret
          exact ⟨ret_bool (by rw [hE.out]), HC.out⟩
    · have hE : Hid (v = false) := by
        show v = false
        rw [← HV.out, decide_eq_false_iff_not]
        intro e
        exact hnm (by rw [← HN.out.1, ← HN.out.2.1, e])
      subst hrr
      have hb1 : ((n : Int) != (m : Int)) = true := by simp; omega
      clear hnm
      go_enter Tryz.func22, Tryz.ntmps22
      go_wp2
      rw [← HW.out]
      go_ret
      exact ⟨ret_bool (by rw [hE.out]), HC.out⟩
  · have hE : Hid (v = false) := by
      show v = false
      rw [← HV.out, decide_eq_false_iff_not]
      intro e
      exact hrr (by rw [← HN.out.2.2.1, ← HN.out.2.2.2, e])
    have hb1 : (re != re') = true := by simpa using hrr
    cases re <;> cases re'
    all_goals first | exact absurd rfl hrr | skip
    all_goals
      clear hrr hb1
      go_enter Tryz.func22, Tryz.ntmps22
      go_wp2
      rw [← HW.out]
      go_ret
      exact ⟨ret_bool (by rw [hE.out]), HC.out⟩

end Go.Proofs.YtglnkpgfdjnhnaaGreatDoor
