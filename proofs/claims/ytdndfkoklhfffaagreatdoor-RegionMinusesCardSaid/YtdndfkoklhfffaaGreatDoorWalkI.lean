/- Walks: slices.ContainsFunc over patterns; the least length of a region's paths. -/
import Derived.Test.YtdndfkoklhfffaaGreatDoorWalkH
set_option linter.unusedVariables false
set_option linter.unusedSimpArgs false
namespace Go.Proofs.YtdndfkoklhfffaaGreatDoor
open Go Go.RowKit Sy

/-- The first place at which pr holds, or -1. -/
def ixOf {α : Type} (pr : α → Bool) (ps : List α) : Int := if ps.any pr then (ps.findIdx pr : Int) else -1
theorem ixOf_hit {α : Type} {pr : α → Bool} {ps : List α} {k : Nat} {p : α} (hk : ps[k]? = some p) (hp : pr p = true) (hall : ∀ j q, j < k → ps[j]? = some q → pr q = false) : ixOf pr ps = k := by
  obtain ⟨hlt, he⟩ := List.getElem?_eq_some_iff.1 hk
  have h1 : ps.any pr = true := List.any_eq_true.2 ⟨p, List.mem_of_getElem? hk, hp⟩
  have h2 : ps.findIdx pr = k := (List.findIdx_eq hlt).2 ⟨by rw [he]; exact hp, fun j hj => hall j _ hj (List.getElem?_eq_getElem (by omega))⟩
  rw [ixOf, if_pos h1, h2]
theorem ixOf_miss {α : Type} {pr : α → Bool} {ps : List α} (hall : ∀ j q, j < ps.length → ps[j]? = some q → pr q = false) : ixOf pr ps = -1 := by
  have h1 : ps.any pr = false := by
    rw [List.any_eq_false]
    intro q hq
    obtain ⟨j, hj, e⟩ := List.mem_iff_getElem.1 hq
    simp [hall j q hj (by rw [List.getElem?_eq_getElem hj, e])]
  rw [ixOf, h1]
  rfl
theorem ixOf_any {α : Type} (pr : α → Bool) (ps : List α) : decide (0 ≤ ixOf pr ps) = ps.any pr := by
  unfold ixOf
  cases ps.any pr <;> simp
theorem none_step {α : Type} {pr : α → Bool} {ps : List α} {k : Nat} {p : α} (hk : ps[k]? = some p) (hp : pr p = false) (h : ∀ j q, j < k → ps[j]? = some q → pr q = false) : ∀ j q, j < k + 1 → ps[j]? = some q → pr q = false := fun j q hj hq => by
  by_cases e : j = k
  · subst e
    rw [hk] at hq
    cases hq
    exact hp
  · exact h j q (by omega) hq

/-- What is asked of a predicate on patterns. -/
def PredP (g : Nat) (lb : Array Value) (pr : Pat → Bool) (w : World) : Prop :=
  ∀ (W : World), Calm w W → ∀ (p : Pat) (A : Option Addr) (c : Nat), StrsR W A p.parts → p.parts.length ≤ c → c ≤ 9223372036854775807 → Calls Tryz.prog g (#[.agg #[.slice A p.parts.length c, .bool p.rest]] ++ lb) W fun e w' => e = .returned (.bool (pr p)) ∧ Calm W w'

set_option maxHeartbeats 1000000 in
theorem pidx_c (g : Nat) (lb : Array Value) (eg : ∀ args w, (callFunc g args).run Tryz.prog w = .ok (.enter g args) w) (pr : Pat → Bool) (ps : List Pat) (A : Option Addr) (c : Nat) (w : World) (hr : PatsR w A ps) (hp : PredP g lb pr w) :
    Calls Tryz.prog 67 #[.slice A ps.length c, .func (.func g) #[] lb] w fun e w' => e = .returned (.int .i64 (ixOf pr ps)) ∧ Calm w w' := by
  have hlen := hr.len
  obtain ⟨n, hn⟩ : ∃ n, ps.length = n := ⟨_, rfl⟩
  have Hn := Lib.hid hn
  have HR := Lib.hid hr
  have HP := Lib.hid hp
  rw [hn] at hlen
  rw [hn]
  clear hn hr hp
  go_enter Tryz.func67, Tryz.ntmps67
  go_wp2_with fail
  go_loopw [8] (fun i wr => ∃ k : Nat, k ≤ n ∧ i = .int .i64 k ∧ Hid (∀ j q, j < k → ps[j]? = some q → pr q = false) ∧ Hid (Calm w wr)) (fun i _ => n - (intOf i).toNat)
  case atStart => exact ⟨0, Nat.zero_le _, rfl, fun j q hj => absurd hj (Nat.not_lt_zero _), Calm.refl _⟩
  case round =>
    obtain ⟨k, hk, rfl, HI, HC⟩ := hrel
    by_cases hlt : k < n
    · obtain ⟨b, o, p, Ak, ck, rfl, _, hpk, h1, h2, h3, h4, h5⟩ := (HR.out.calm HC.out).get (k := k) (by rw [Hn.out]; exact hlt)
      have HK := Lib.hid hpk
      have hcall := HP.out wr HC.out p Ak ck h5 h3 h4
      obtain ⟨r, hr⟩ : ∃ r, pr p = r := ⟨_, rfl⟩
      rw [hr] at hcall
      have HPr := Lib.hid hr
      clear hpk h5 hr
      cases r with
      | true =>
        go_wp2_with (go_at_fn g; refine hcall.mono ?_; rintro e w' ⟨rfl, hb'⟩)
        go_ret
        exact ⟨ret_int (ixOf_hit HK.out HPr.out HI.out).symm, HC.out.trans hb'⟩
      | false =>
        go_wp2_with (go_at_fn g; refine hcall.mono ?_; rintro e w' ⟨rfl, hb'⟩)
        go_roundw
        case rel => exact ⟨k + 1, by omega, by go_num, none_step HK.out HPr.out HI.out, HC.out.trans hb'⟩
        case measure => simp [intOf]; omega
    · have hv : Hid (ixOf pr ps = -1) := ixOf_miss fun j q hj hq => HI.out j q (by rw [Hn.out] at hj; omega) hq
      go_wp2
      go_ret
      exact ⟨ret_int hv.out.symm, HC.out⟩

set_option maxHeartbeats 400000 in
theorem pany_c (g : Nat) (lb : Array Value) (eg : ∀ args w, (callFunc g args).run Tryz.prog w = .ok (.enter g args) w) (pr : Pat → Bool) (ps : List Pat) (A : Option Addr) (c : Nat) (w : World) (hr : PatsR w A ps) (hp : PredP g lb pr w) :
    Calls Tryz.prog 34 #[.slice A ps.length c, .func (.func g) #[] lb] w fun e w' => e = .returned (.bool (ps.any pr)) ∧ Calm w w' := by
  have h := pidx_c g lb eg pr ps A c w hr hp
  have e := ixOf_any pr ps
  rw [← e]
  clear hr hp eg e
  generalize ixOf pr ps = r at h ⊢
  go_enter Tryz.func34, Tryz.ntmps34
  go_wp2_with (go_at_call 67; refine h.mono ?_; rintro e w' ⟨rfl, hb'⟩)
  go_ret
  exact ⟨rfl, hb'⟩
end Go.Proofs.YtdndfkoklhfffaaGreatDoor
