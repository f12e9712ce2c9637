/- The law ViewDecided: its walk. -/
import Derived.Test.YtoaelfdkamgdaaaDoorAwakeV
set_option linter.unusedVariables false
set_option linter.unusedSimpArgs false
namespace Go.Proofs.YtoaelfdkamgdaaaDoor
open Go Go.RowKit Sy

theorem join_app_len (K : Nat) (b : List Str) : ∀ a : List Str, (∀ x ∈ a, x.length ≤ K) → (Lib.join (a ++ b) [47]).length ≤ a.length * (K + 1) + (Lib.join b [47]).length
  | [], _ => by simp
  | x :: a, h => by
    have ih := join_app_len K b a (fun y hy => h y (by simp [hy]))
    have hx := h x (by simp)
    rw [List.cons_append, List.length_cons, Nat.succ_mul]
    rcases hab : a ++ b with _ | ⟨y, t⟩
    · rw [join47_one]
      omega
    · rw [join47_cons, ← hab]
      simp only [List.length_append, List.length_cons]
      omega
theorem fwd_len {r : Rule} {s t : Str} (hsm : SmallV r) (hs : s.length ≤ 300) (h : fwd r s = some t) : t.length ≤ 5000 := by
  obtain ⟨l, h0, hp, hm, ht, _⟩ := fwd_some h
  have tw := ruleErr_twin.1 h0
  have h12 := patErr_len tw.rp
  obtain ⟨h2, h3, h4⟩ := pathOf_some hp
  have hjl : (Lib.join l [47]).length ≤ 300 := by
    rw [h4] at hs
    simp only [pathStr, List.length_cons] at hs
    omega
  have hea : ∀ x ∈ l, x.length ≤ 300 := by
    have hh : l = slash (Lib.join l [47]) := (slash_join l (by rintro rfl; simp at h2) (fun x hx => comp_no47 (List.all_eq_true.1 h3 x hx))).symm
    intro x hx
    rw [hh] at hx
    have := slash_each _ x hx
    omega
  have hcs := capsTo_each (p := r.left) hea r.left.parts.length
  have hK : ∀ x ∈ fillR r.right.parts (capsTo r.left l r.left.parts.length), x.length ≤ 360 := by
    intro y hy
    obtain ⟨j, hj, e⟩ := List.mem_iff_getElem.1 hy
    have hjl : j < r.right.parts.length := by rw [fillR_len] at hj; exact hj
    have h1 := fillR_get r.right.parts (capsTo r.left l r.left.parts.length) j _ (List.getElem?_eq_getElem hjl)
    rw [List.getElem?_eq_getElem hj, e] at h1
    simp only [Option.some.injEq] at h1
    have h2 := hsm.rs _ (List.getElem_mem hjl)
    rw [h1]
    split
    · rw [List.length_append, List.length_tail]
      have h3 : ((capsTo r.left l r.left.parts.length).getD ((r.right.parts.take j).filter isStar).length []).length ≤ 300 := by
        rw [List.getD_eq_getElem?_getD]
        rcases e : (capsTo r.left l r.left.parts.length)[((r.right.parts.take j).filter isStar).length]? with _ | y
        · simp
        · exact hcs y (List.mem_of_getElem? e)
      omega
    · omega
  have hfl := fillR_len r.right.parts (capsTo r.left l r.left.parts.length)
  have hrest : (Lib.join (if r.right.rest then l.drop r.left.parts.length else []) [47]).length ≤ 300 := by
    split
    · have := join_drop_le r.left.parts.length l
      omega
    · simp [Lib.join, List.intercalate]
  have hj := join_app_len 360 (if r.right.rest then l.drop r.left.parts.length else []) _ hK
  rw [ht, pathStr, trL]
  simp only [List.length_cons]
  rw [hfl] at hj
  have : r.right.parts.length * (360 + 1) ≤ 12 * 361 := Nat.mul_le_mul h12 (Nat.le_refl _)
  omega

theorem vfwd_v (v : List Rule) (s : Str) (u : Value) (A : Option Addr) (n c : Nat) (w : World) (hs : s.length ≤ 300) (hM : MaxL w) (hv : RulesU w A v) (hsm : ∀ r ∈ v, SmallV r) (hn : v.length = n) (hu : vfV v s = u) :
    Calls Tryd.prog 13 #[.slice A n c, .string (bs s)] w fun e w' => e = .returned u ∧ Calm w w' :=
  hu ▸ vfwd_c v s A n c w (by omega) hM hv hsm hn (fun k r t _ hr hf => by have := fwd_len (hsm r (List.mem_of_getElem? hr)) hs hf; omega)
theorem rfwd_v (r : Rule) (a : Pl) (s : Str) (u : Value) (w : World) (hr : RuleU w a r) (hsm : SmallV r) (hs : s.length ≤ 10000) (hM : MaxL w) (h : fwdV r s = u) :
    Calls Tryd.prog 15 #[.agg #[.bool r.excl, .slice a.AL r.left.parts.length a.cl, .bool r.left.rest, .slice a.AR r.right.parts.length a.cr, .bool r.right.rest], .string (bs s)] w fun e w' => e = .returned u ∧ Calm w w' := h ▸ rfwd_c r a s w hr hsm hs hM
theorem vdec_v (v : List Rule) (s : Str) (A : Option Addr) (n c : Nat) (w : World) (hs : s.length ≤ 300) (hM : MaxL w) (hv : RulesU w A v) (hsm : ∀ r ∈ v, SmallV r) (hn : v.length = n) :
    ∀ x, decides v s = x → Calls Tryd.prog 16 #[.slice A n c, .string (bs s)] w fun e w' => e = .returned (.int .i64 x) ∧ Calm w w' := fun x hx =>
  vdec_c v s x A n c w (by omega) hM hv hsm hn hx

set_option maxRecDepth 100000 in
set_option maxHeartbeats 4000000 in
theorem viewDecided_c (v : List Rule) (s : Str) (A : Option Addr) (n c : Nat) (w : World) (hv : RulesU w A v) (hn : v.length = n) (hs : s.length ≤ 1048576) (hM : MaxL w) :
    Calls Tryd.prog 5 #[.slice A n c, .string (bs s)] w fun e w' => e = .returned (.bool true) ∧ Calm w w' := by
  obtain ⟨y, hy⟩ : ∃ y, smallW v = y := ⟨_, rfl⟩
  have hsmall := smallv_c v y A n c w hv hn hy
  have hlen := hv.len
  rw [hn] at hlen
  have hsz := bs_size s
  have KA : Hid (∀ W, Calm w W → Calls Tryd.prog 12 #[] W fun e w' => e = .returned (.bool true) ∧ Calm W w') := fun W hW => awakev_c W (hM.calm hW)
  cases y with
  | false =>
    clear hv hn hM hy
    go_enter Tryd.func5, Tryd.ntmps5
    go_wp2_with (first
      | (go_at_call 11; refine hsmall.mono ?_; rintro e w2 ⟨rfl, hc2⟩)
      | (go_at_call 12; refine (KA.out w2 hc2).mono ?_; rintro e w3 ⟨rfl, hc3⟩))
    go_ret
    exact ⟨rfl, hc2.trans hc3⟩
  | true =>
    obtain ⟨hsm, _⟩ := smallW_small hy
    by_cases h300 : 300 < s.length
    · clear hv hn hM hy hsm
      go_enter Tryd.func5, Tryd.ntmps5
      go_wp2_with (first
        | (go_at_call 11; refine hsmall.mono ?_; rintro e w2 ⟨rfl, hc2⟩)
        | (go_at_call 12; refine (KA.out w2 hc2).mono ?_; rintro e w3 ⟨rfl, hc3⟩))
      go_ret
      exact ⟨rfl, hc2.trans hc3⟩
    · obtain ⟨x, hx⟩ : ∃ x, decides v s = x := ⟨_, rfl⟩
      have KD : Hid (∀ W, Calm w W → Calls Tryd.prog 16 #[.slice A n c, .string (bs s)] W fun e w' => e = .returned (.int .i64 x) ∧ Calm W w') := fun W hW => vdec_v v s A n c W (by omega) (hM.calm hW) (hv.calm hW) hsm hn x hx
      have hxb := decides_lt v s
      rw [hx, hn] at hxb
      rcases hf : vfwd v s with _ | t
      · have KF : Hid (∀ W, Calm w W → Calls Tryd.prog 13 #[.slice A n c, .string (bs s)] W fun e w' => e = .returned (.tuple #[.string ⟨#[]⟩, .bool false]) ∧ Calm W w') := fun W hW => vfwd_v v s _ A n c W (by omega) (hM.calm hW) (hv.calm hW) hsm hn (vfV_no hf)
        obtain ⟨hx1, hx2⟩ := hxb
        clear hv hn hM hy hsm hf hx
        go_enter Tryd.func5, Tryd.ntmps5
        go_wp2_with (first
          | (go_at_call 11; refine hsmall.mono ?_; rintro e w2 ⟨rfl, hc2⟩)
          | (go_at_call 13; refine (KF.out w2 hc2).mono ?_; rintro e w3 ⟨rfl, hc3⟩)
          | (go_at_call 16; refine (KD.out w3 (hc2.trans hc3)).mono ?_; rintro e w4 ⟨rfl, hc4⟩)
          | (go_at_call 12; refine (KA.out w4 (hc2.trans (hc3.trans hc4))).mono ?_; rintro e w5 ⟨rfl, hc5⟩))
        go_ret
        exact ⟨rfl, hc2.trans (hc3.trans (hc4.trans hc5))⟩
      · have KF : Hid (∀ W, Calm w W → Calls Tryd.prog 13 #[.slice A n c, .string (bs s)] W fun e w' => e = .returned (.tuple #[.string (bs t), .bool true]) ∧ Calm W w') := fun W hW => vfwd_v v s _ A n c W (by omega) (hM.calm hW) (hv.calm hW) hsm hn (vfV_some hf)
        obtain ⟨k, r, hk, hr, hex, hfr⟩ := decided hf
        have hxk : x = k := by rw [← hx]; exact hk
        subst hxk
        have hkn : k < n := by omega
        obtain ⟨b, o, r', a, rfl, hb, hr', hat, hru⟩ := hv.get (k := k) (by rw [hn]; exact hkn)
        obtain rfl : r = r' := by rw [hr] at hr'; exact Option.some.inj hr'
        have hsr := hsm r (List.mem_of_getElem? hr)
        have KR : Hid (∀ W, Calm w W → Calls Tryd.prog 15 #[.agg #[.bool false, .slice a.AL r.left.parts.length a.cl, .bool r.left.rest, .slice a.AR r.right.parts.length a.cr, .bool r.right.rest], .string (bs s)] W fun e w' => e = .returned (.tuple #[.string (bs t), .bool true]) ∧ Calm W w') := fun W hW => by
          have := rfwd_v r a s _ W (hru.calm hW) hsr (by omega) (hM.calm hW) (fwdV_some hfr)
          rw [hex] at this
          exact this
        have HAt := Lib.hid (And.intro hb hat)
        clear hv hn hM hy hsm hf hx hxb hru hr hr' hat hk hfr
        go_enter Tryd.func5, Tryd.ntmps5
        go_wp2_with (first
          | (go_at_call 11; refine hsmall.mono ?_; rintro e w2 ⟨rfl, hc2⟩)
          | (go_at_call 13; refine (KF.out w2 hc2).mono ?_; rintro e w3 ⟨rfl, hc3⟩)
          | (go_at_call 16; refine (KD.out w3 (hc2.trans hc3)).mono ?_; rintro e w4 ⟨rfl, hc4⟩; have d := HAt.out.2.calm (hc2.trans (hc3.trans hc4)) HAt.out.1; have d0 := d.c0; have d1 := d.c1; have d2 := d.c2; have d3 := d.c3; have d4 := d.c4; rw [hex] at d0)
          | (go_at_call 15; refine (KR.out w4 (hc2.trans (hc3.trans hc4))).mono ?_; rintro e w5 ⟨rfl, hc5⟩)
          | (go_at_call 12; refine (KA.out w5 (hc2.trans (hc3.trans (hc4.trans hc5)))).mono ?_; rintro e w6 ⟨rfl, hc6⟩))
        go_ret
        exact ⟨rfl, hc2.trans (hc3.trans (hc4.trans (hc5.trans hc6)))⟩
end Go.Proofs.YtoaelfdkamgdaaaDoor
