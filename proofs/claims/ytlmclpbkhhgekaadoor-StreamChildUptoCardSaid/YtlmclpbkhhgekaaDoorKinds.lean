/- Walks: the kinds of a pattern; the Checks of a line. -/
import Derived.Test.YtlmclpbkhhgekaaDoorCheckG
import Derived.Test.YtlmclpbkhhgekaaDoorRMatch
import Derived.Test.YtlmclpbkhhgekaaDoorRuleMem
import Derived.Deep.QuietTactic
import Derived.BigQuiet
set_option linter.unusedVariables false
set_option linter.unusedSimpArgs false
namespace Go.Proofs.YtlmclpbkhhgekaaDoor
open Go Go.RowKit Sy

theorem starTo_succ {p : Pat} {k : Nat} {x : Str} (h : p.parts[k]? = some x) : starTo p (k + 1) = starTo p k + if isStar x then 1 else 0 := by
  obtain ⟨hlt, he⟩ := List.getElem?_eq_some_iff.1 h
  rw [starTo, List.take_succ_eq_append_getElem hlt, List.filter_append, he, List.length_append, ← starTo]
  rcases hs : isStar x with _ | _ <;> simp [List.filter_cons, hs]
theorem starTo_le (p : Pat) (k : Nat) : starTo p k ≤ k := by
  have h1 := List.length_filter_le isStar (p.parts.take k)
  have h2 := List.length_take_le k p.parts
  unfold starTo
  omega
theorem starTo_all (p : Pat) : starTo p p.parts.length = starN p := by rw [starTo, List.take_length, starN]

set_option maxHeartbeats 1000000 in
theorem kinds_e (p : Pat) (v : Int) (A : Option Addr) (c : Nat) (w : World) (hr : StrsG w A p.parts) (hnc : p.parts.length ≤ c) (hc47 : c ≤ 9223372036854775807) (hv : patErr p = v) (hv0 : v ≠ 0) :
    Calls Tryd.prog 86 #[.agg #[.slice A p.parts.length c, .bool p.rest]] w fun e w' => e = .returned (.tuple #[.int .i64 0, .bool false, .int .i64 v]) ∧ Calm w w' := by
  obtain ⟨w1, hw1⟩ : ∃ w1, w1 = w.alloc (.cells #[.slice A p.parts.length c, .bool p.rest] 33) := ⟨_, rfl⟩
  have hc1 : Calm w w1 := by rw [hw1]; exact (Calm.refl w).alloc _
  have hck := pcheckG_c p A c w1 (hr.calm hc1) hnc hc47
  rw [hv] at hck
  have hvb : (v != 0) = true := by simpa using hv0
  have HW := Lib.hid hw1
  have HC := Lib.hid hc1
  clear hw1 hc1 hr hv hv0 hnc
  generalize p.parts.length = n at *
  generalize p.rest = re at *
  go_enter Tryd.func86, Tryd.ntmps86
  go_wp2_with (go_at_call 83; rw [← HW.out]; refine hck.mono ?_; rintro e w2 ⟨rfl, hc2⟩)
  go_ret3
  exact ⟨rfl, HC.out.trans hc2⟩

set_option maxHeartbeats 1000000 in
theorem kinds_c (p : Pat) (A : Option Addr) (c : Nat) (w : World) (hr : StrsG w A p.parts) (hnc : p.parts.length ≤ c) (hc47 : c ≤ 9223372036854775807) (hv : patErr p = 0) :
    Calls Tryd.prog 86 #[.agg #[.slice A p.parts.length c, .bool p.rest]] w fun e w' => e = .returned (.tuple #[.int .i64 (starN p : Nat), .bool p.rest, .int .i64 0]) ∧ Calm w w' := by
  obtain ⟨n, hn⟩ : ∃ n, p.parts.length = n := ⟨_, rfl⟩
  obtain ⟨re, hre⟩ : ∃ re, p.rest = re := ⟨_, rfl⟩
  obtain ⟨w1, hw1⟩ : ∃ w1, w1 = w.alloc (.cells #[.slice A n c, .bool re] 33) := ⟨_, rfl⟩
  have hc1 : Calm w w1 := by rw [hw1]; exact (Calm.refl w).alloc _
  have hs1 : w.heap.size < w1.heap.size := by rw [hw1]; simp
  have k0 : w1.cell? ⟨w.heap.size, 0, none⟩ = some (.slice A n c) := by rw [hw1]; simp
  have k1 : w1.cell? ⟨w.heap.size, 1, none⟩ = some (.bool re) := by rw [hw1]; simp
  have hck := pcheckG_c p A c w1 (hr.calm hc1) hnc hc47
  have h12 := patErr_len hv
  rw [hv, hn, hre] at hck
  rw [hn] at h12
  rw [hre]
  have HW := Lib.hid hw1
  have HC := Lib.hid hc1
  have HN := Lib.hid hn
  have HK := Lib.hid (And.intro k0 k1)
  have HR := Lib.hid (hr.calm hc1)
  rw [hn]
  clear hw1 hc1 hr hv hnc hn hre k0 k1
  go_enter Tryd.func86, Tryd.ntmps86
  go_wp2_with (go_at_call 83; rw [← HW.out]; refine hck.mono ?_; rintro e w2 ⟨rfl, hc2⟩; have l0 := hc2.at_ HK.out.1 hs1)
  have HC2 := Lib.hid hc2
  clear hc2 l0 hck
  go_loopw [2, 16] (fun t q wr => ∃ k T : Nat, k ≤ n ∧ q = .int .i64 k ∧ t = .int .i64 T ∧ T ≤ k ∧ Hid (starTo p k = T) ∧ Hid (Calm w1 wr)) (fun _ q _ => n - (intOf q).toNat)
  case atStart => exact ⟨0, 0, Nat.zero_le _, rfl, rfl, Nat.le_refl _, rfl, HC2.out⟩
  case round =>
    obtain ⟨k, T, hk, rfl, rfl, hT, HT, HCr⟩ := hrel
    by_cases hlt : k < n
    · obtain ⟨b, o, x, rfl, hb, hx, hxl, hxc⟩ := (HR.out.calm HCr.out).get (k := k) (by rw [HN.out]; exact hlt)
      have hst := starTo_succ hx
      rw [HT.out] at hst
      have HSt := Lib.hid hst
      clear hx hst
      rcases hs : isStar x with _ | _
      · go_wp2_with (go_at_call 85; refine (isStar_v _ _ _ hs).mono ?_; rintro e w' ⟨rfl, rfl⟩)
        go_roundw
        case rel => exact ⟨k + 1, T, by omega, by go_num, rfl, by omega, (by show starTo p (k + 1) = T; rw [HSt.out, hs]; rfl), HCr.out⟩
        case measure => simp [intOf]; omega
      · go_wp2_with (go_at_call 85; refine (isStar_v _ _ _ hs).mono ?_; rintro e w' ⟨rfl, rfl⟩)
        go_roundw
        case rel => exact ⟨k + 1, T + 1, by omega, by go_num, by go_num, by omega, (by show starTo p (k + 1) = T + 1; rw [HSt.out, hs]; rfl), HCr.out⟩
        case measure => simp [intOf]; omega
    · have hT2 : Hid (starN p = T) := by
        show starN p = T
        rw [← starTo_all, HN.out, show n = k by omega]
        exact HT.out
      have l1 := HCr.out.at_ HK.out.2 hs1
      go_wp2_with fail
      go_quiet (fail)
      go_wp2
      go_ret3
      exact ⟨by rw [hT2.out]; rfl, HC.out.trans (HCr.out.drewN _)⟩

set_option maxHeartbeats 1000000 in
theorem rkinds_c (p : Pat) (A : Option Addr) (c : Nat) (w : World) (hr : StrsG w A p.parts) (hsh : ∀ x ∈ p.parts, x.length ≤ 16384) (hv : patErr p = 0) :
    Calls Tryd.prog 73 #[.agg #[.slice A p.parts.length c, .bool p.rest]] w fun e w' => e = .returned (.tuple #[.int .i64 (starN p : Nat), .bool p.rest]) ∧ Calm w w' := by
  obtain ⟨n, hn⟩ : ∃ n, p.parts.length = n := ⟨_, rfl⟩
  obtain ⟨re, hre⟩ : ∃ re, p.rest = re := ⟨_, rfl⟩
  obtain ⟨w1, hw1⟩ : ∃ w1, w1 = w.alloc (.cells #[.slice A n c, .bool re] 33) := ⟨_, rfl⟩
  have hc1 : Calm w w1 := by rw [hw1]; exact (Calm.refl w).alloc _
  have hs1 : w.heap.size < w1.heap.size := by rw [hw1]; simp
  have k0 : w1.cell? ⟨w.heap.size, 0, none⟩ = some (.slice A n c) := by rw [hw1]; simp
  have k1 : w1.cell? ⟨w.heap.size, 1, none⟩ = some (.bool re) := by rw [hw1]; simp
  have h12 := patErr_len hv
  rw [hn] at h12
  rw [hre]
  have HW := Lib.hid hw1
  have HC := Lib.hid hc1
  have HN := Lib.hid hn
  have HSh := Lib.hid hsh
  have HK := Lib.hid (And.intro k0 k1)
  have HR := Lib.hid (hr.calm hc1)
  have HV := Lib.hid (goodPat_of hv)
  rw [hn]
  clear hw1 hc1 hr hv hn hre k0 k1 hsh
  go_enter Tryd.func73, Tryd.ntmps73
  go_wp2_with fail
  rw [← HW.out]
  go_loopw [4, 12] (fun t q wr => ∃ k T : Nat, k ≤ n ∧ q = .int .i64 k ∧ t = .int .i64 T ∧ T ≤ k ∧ Hid (starTo p k = T) ∧ Hid (Calm w1 wr)) (fun _ q _ => n - (intOf q).toNat)
  case atStart => exact ⟨0, 0, Nat.zero_le _, rfl, rfl, Nat.le_refl _, rfl, Calm.refl _⟩
  case round =>
    obtain ⟨k, T, hk, rfl, rfl, hT, HT, HCr⟩ := hrel
    by_cases hlt : k < n
    · obtain ⟨b, o, x, rfl, hb, hx, hxl, hxc⟩ := (HR.out.calm HCr.out).get (k := k) (by rw [HN.out]; exact hlt)
      have hst := starTo_succ hx
      have hxm := List.mem_of_getElem? hx
      have hx16 := HSh.out x hxm
      have hok := starOk_iff (HV.out x hxm)
      rw [HT.out] at hst
      have HSt := Lib.hid hst
      clear hx hst hxm
      rcases hs : isStar x with _ | _
      · rw [hs] at hok
        go_wp2_with (go_at_call 33; refine (star_v x _ _ _ hx16 hok rfl).mono ?_; rintro e w' ⟨rfl, rfl⟩)
        go_roundw
        case rel => exact ⟨k + 1, T, by omega, by go_num, rfl, by omega, (by show starTo p (k + 1) = T; rw [HSt.out, hs]; rfl), HCr.out⟩
        case measure => simp [intOf]; omega
      · rw [hs] at hok
        go_wp2_with (go_at_call 33; refine (star_v x _ _ _ hx16 hok rfl).mono ?_; rintro e w' ⟨rfl, rfl⟩)
        go_roundw
        case rel => exact ⟨k + 1, T + 1, by omega, by go_num, by go_num, by omega, (by show starTo p (k + 1) = T + 1; rw [HSt.out, hs]; rfl), HCr.out⟩
        case measure => simp [intOf]; omega
    · have hT2 : Hid (starN p = T) := by
        show starN p = T
        rw [← starTo_all, HN.out, show n = k by omega]
        exact HT.out
      have l1 := HCr.out.at_ HK.out.2 hs1
      go_wp2_with fail
      go_quiet (fail)
      go_wp2
      go_ret2
      exact ⟨by rw [hT2.out]; rfl, HC.out.trans (HCr.out.drewN _)⟩
end Go.Proofs.YtlmclpbkhhgekaaDoor
