/- Walks: the reference's Decides, Related and Forward of a view. -/
import Derived.Test.YtoaelfdkamgdaaaDoorLawDec
import Derived.Test.YtoaelfdkamgdaaaDoorRuleOwn
set_option linter.unusedVariables false
set_option linter.unusedSimpArgs false
namespace Go.Proofs.YtoaelfdkamgdaaaDoor
open Go Go.RowKit Sy

theorem bs_inj2 {x y : Str} (h : bs x = bs y) : x = y := by
  have := congrArg (fun b : ByteArray => b.data.toList) h
  simpa [bs] using this
theorem rmatch_y (p : Pat) (s : Str) (y : Bool) (A : Option Addr) (c : Nat) (w : World) (hs : s.length ≤ 10000) (hr : StrsR w A p.parts) (hpc : p.parts.length ≤ c) (hc47 : c ≤ 9223372036854775807) (hM : MaxL w) (hy : matchS p s = y) :
    Calls Tryd.prog 30 #[.agg #[.slice A p.parts.length c, .bool p.rest], .string (bs s)] w fun e w' => ∃ A' n' c', e = .returned (.tuple #[.slice A' n' c', .bool y]) ∧ Calm w w' := by
  refine (rmatch_c p s A c w hs hr hpc hc47 hM).mono fun e w' ⟨h1, h2⟩ => ?_
  rcases h1 with ⟨h3, A', c', h4, _⟩ | ⟨h3, h4⟩
  · rw [hy] at h3
    subst h3
    exact ⟨_, _, _, h4, h2⟩
  · rw [hy] at h3
    subst h3
    exact ⟨_, _, _, h4, h2⟩
theorem lastIx_take {α : Type} (f : α → Bool) {v : List α} {k : Nat} {r : α} (h : v[k]? = some r) : lastIx f (v.take (k + 1)) = if f r then (k : Int) else lastIx f (v.take k) := by
  obtain ⟨hlt, rfl⟩ := List.getElem?_eq_some_iff.1 h
  rw [List.take_succ_eq_append_getElem hlt, lastIx_snoc, List.length_take, Nat.min_eq_left (by omega)]

set_option maxHeartbeats 2000000 in
theorem rvdec_c (v : List Rule) (s : Str) (x : Int) (A : Option Addr) (n c : Nat) (w : World) (hs : s.length ≤ 10000) (hM : MaxL w) (hv : RulesU w A v) (hsm : ∀ r ∈ v, SmallV r) (hn : v.length = n) (hx : decides v s = x) :
    Calls Tryd.prog 23 #[.slice A n c, .string (bs s)] w fun e w' => e = .returned (.int .i64 x) ∧ Calm w w' := by
  obtain ⟨ix, hix⟩ : ∃ ix, viewIx v = ix := ⟨_, rfl⟩
  obtain ⟨ve, hve⟩ : ∃ ve, viewErr v = ve := ⟨_, rfl⟩
  have hlen := hv.len
  rw [hn] at hlen
  have hk := rvcheck_v v ix ve A n c w hv hsm hn hix hve
  by_cases h0 : ve = 0
  · have hd : Hid (lastIx (fun r => matchS r.left s) v = x) := by
      show decL v s = x
      rw [← hx, decides, if_pos (by rw [hve, h0])]
    subst h0
    have HN := Lib.hid hn
    have HV := Lib.hid hv
    have HSm := Lib.hid hsm
    have HM := Lib.hid hM
    clear hn hv hsm hM hx hix hve
    go_enter Tryd.func23, Tryd.ntmps23
    go_wp2_with (go_at_call 17; refine hk.mono ?_; rintro e w2 ⟨rfl, hc2⟩)
    have HC2 := Lib.hid hc2
    clear hk hc2
    go_loopw [7, 21] (fun u q wr => ∃ (k : Nat) (y : Int), k ≤ n ∧ q = .int .i64 k ∧ u = .int .i64 y ∧ Hid (lastIx (fun r => matchS r.left s) (v.take k) = y) ∧ Hid (Calm w wr)) (fun _ q _ => n - (intOf q).toNat)
    case atStart => exact ⟨0, -1, Nat.zero_le _, rfl, rfl, rfl, HC2.out⟩
    case round =>
      obtain ⟨k, y, hk, rfl, rfl, HL, HC⟩ := hrel
      by_cases hlt : k < n
      · obtain ⟨b, o, r, a, rfl, hb, hr, hat, hru⟩ := (HV.out.calm HC.out).get (k := k) (by rw [HN.out]; exact hlt)
        have hsr := HSm.out r (List.mem_of_getElem? hr)
        obtain ⟨wB, hwB⟩ : ∃ wB, wB = wr.alloc (.cells #[.bool r.excl, .slice a.AL r.left.parts.length a.cl, .bool r.left.rest, .slice a.AR r.right.parts.length a.cr, .bool r.right.rest] 27) := ⟨_, rfl⟩
        have hcB : Calm wr wB := by rw [hwB]; exact (Calm.refl wr).alloc _
        obtain ⟨z, hz⟩ : ∃ z, matchS r.left s = z := ⟨_, rfl⟩
        have h := hru.calm hcB
        have hm := rmatch_y r.left s z a.AL a.cl wB hs (h.left hsr.small) h.lroom h.lcap (HM.out.calm (HC.out.trans hcB)) hz
        have ht := lastIx_take (fun r => matchS r.left s) hr
        simp only [hz] at ht
        have HT := Lib.hid ht
        have HB := Lib.hid hwB
        have HCB := Lib.hid hcB
        have c0 := hat.c0
        have c1 := hat.c1
        have c2 := hat.c2
        have c3 := hat.c3
        have c4 := hat.c4
        clear hr hat hru hsr hwB hcB hz h ht
        cases z with
        | true =>
          go_wp2_with (go_at_call 30; rw [← HB.out]; refine hm.mono ?_; rintro e w3 ⟨A3, n3, c3, rfl, hc3⟩)
          go_roundw
          case rel => exact ⟨k + 1, k, by omega, by go_num, rfl, (by show _ = _; rw [HT.out]; rfl), HC.out.trans (HCB.out.trans hc3)⟩
          case measure => simp [intOf]; omega
        | false =>
          go_wp2_with (go_at_call 30; rw [← HB.out]; refine hm.mono ?_; rintro e w3 ⟨A3, n3, c3, rfl, hc3⟩)
          go_roundw
          case rel => exact ⟨k + 1, y, by omega, by go_num, rfl, (by show _ = _; rw [HT.out, HL.out]; rfl), HC.out.trans (HCB.out.trans hc3)⟩
          case measure => simp [intOf]; omega
      · obtain rfl : k = n := by omega
        go_wp2
        go_ret
        exact ⟨ret_int (by rw [← hd.out, ← HL.out, List.take_of_length_le (by rw [HN.out]; exact Nat.le_refl _)]), HC.out⟩
  · obtain rfl : -1 = x := by rw [← hx, decides, if_neg (by rw [hve]; exact h0)]
    have hvb : (ve != 0) = true := by simpa using h0
    clear hv hsm hM hn h0 hx hix hve
    go_enter Tryd.func23, Tryd.ntmps23
    go_wp2_with (go_at_call 17; refine hk.mono ?_; rintro e w2 ⟨rfl, hc2⟩)
    go_ret
    exact ⟨rfl, hc2⟩

theorem relTo_succ {v : List Rule} {s t : Str} {k : Nat} {r : Rule} (h : v[k]? = some r) : relTo v s t (k + 1) = if fwd r s = some t ∧ r.excl = false then true else if matchS r.left s || matchS r.right t then false else relTo v s t k := by
  rw [relTo, h]

set_option maxHeartbeats 4000000 in
theorem related_c (v : List Rule) (s t : Str) (y : Bool) (A : Option Addr) (n c : Nat) (w : World) (hs : s.length ≤ 10000) (ht : t.length ≤ 10000) (hM : MaxL w) (hv : RulesU w A v) (hsm : ∀ r ∈ v, SmallV r) (hn : v.length = n) (he : ∀ r ∈ v, ruleErr r = 0) (hy : related v s t = y) :
    Calls Tryd.prog 36 #[.slice A n c, .string (bs s), .string (bs t)] w fun e w' => e = .returned (.bool y) ∧ Calm w w' := by
  have hlen := hv.len
  rw [hn] at hlen
  rw [related, hn] at hy
  have HN := Lib.hid hn
  have HV := Lib.hid hv
  have HSm := Lib.hid hsm
  have HM := Lib.hid hM
  have HE := Lib.hid he
  have HY := Lib.hid hy
  clear hn hv hsm hM he hy
  go_enter Tryd.func36, Tryd.ntmps36
  go_wp2_with fail
  go_loopw [7] (fun q wr => ∃ k : Nat, k ≤ n ∧ q = .int .i64 ((k : Int) - 1) ∧ Hid (relTo v s t k = y) ∧ Hid (Calm w wr)) (fun q _ => (intOf q + 1).toNat)
  case atStart => exact ⟨n, Nat.le_refl _, by go_num, HY.out, Calm.refl _⟩
  case round =>
    obtain ⟨k, hk, hq, HT, HC⟩ := hrel
    rcases k with _ | k
    · obtain rfl : u7 = .int .i64 (-1) := hq
      go_wp2
      go_ret
      exact ⟨ret_bool (by rw [← HT.out]; rfl), HC.out⟩
    · have e1 : (((k + 1 : Nat) : Int) - 1) = (k : Int) := by omega
      rw [e1] at hq
      obtain rfl := hq
      obtain ⟨b, o, r, a, rfl, hb, hr, hat, hru⟩ := (HV.out.calm HC.out).get (k := k) (by rw [HN.out]; omega)
      have hsr := HSm.out r (List.mem_of_getElem? hr)
      have hre := HE.out r (List.mem_of_getElem? hr)
      have hkn : k < n := hk
      have hk0 : (0 : Int) ≤ (k : Int) := by omega
      have hst := relTo_succ (s := s) (t := t) hr
      rw [HT.out] at hst
      have HAt := Lib.hid (And.intro hb hat)
      have KM1 : Hid (∀ W z, Calm wr W → matchS r.left s = z → Calls Tryd.prog 30 #[.agg #[.slice a.AL r.left.parts.length a.cl, .bool r.left.rest], .string (bs s)] W fun e w' => ∃ A' n' c', e = .returned (.tuple #[.slice A' n' c', .bool z]) ∧ Calm W w') := fun W z hW hz =>
        rmatch_y r.left s z a.AL a.cl W hs ((hru.calm hW).left hsr.small) hru.lroom hru.lcap (HM.out.calm (HC.out.trans hW)) hz
      have KM2 : Hid (∀ W z, Calm wr W → matchS r.right t = z → Calls Tryd.prog 30 #[.agg #[.slice a.AR r.right.parts.length a.cr, .bool r.right.rest], .string (bs t)] W fun e w' => ∃ A' n' c', e = .returned (.tuple #[.slice A' n' c', .bool z]) ∧ Calm W w') := fun W z hW hz =>
        rmatch_y r.right t z a.AR a.cr W ht ((hru.calm hW).right hsr.small) hru.rroom hru.rcap (HM.out.calm (HC.out.trans hW)) hz
      have c0 := hat.c0
      have c1 := hat.c1
      have c2 := hat.c2
      have c3 := hat.c3
      have c4 := hat.c4
      have hF : ∀ u, fwdV r s = u → Calls Tryd.prog 15 #[.agg #[.bool r.excl, .slice a.AL r.left.parts.length a.cl, .bool r.left.rest, .slice a.AR r.right.parts.length a.cr, .bool r.right.rest], .string (bs s)] wr fun e w' => e = .returned u ∧ Calm wr w' := fun u hu => rfwd_v r a s u wr hru hsr hs (HM.out.calm HC.out) hu
      have HFm := Lib.hid (fwd_match (s := s) hre)
      clear hat hru hsr hre hk hr
      rcases hf : fwd r s with _ | u
      · have hm1 : matchS r.left s = false := by
          rcases h : matchS r.left s with _ | _
          · rfl
          · obtain ⟨u, hu⟩ := HFm.out.2 h
            rw [hf] at hu
            cases hu
        have hcall := hF _ (fwdV_none hf)
        unfold noV at hcall
        rw [hf, if_neg (fun h => by cases h.1), hm1, Bool.false_or] at hst
        have K1 := fun W hW => KM1.out W false hW hm1
        clear hF hf hm1 KM1 HFm
        rcases hm2 : matchS r.right t with _ | _
        · rw [hm2] at hst
          have HSt := Lib.hid hst
          have K2 := fun W hW => KM2.out W false hW hm2
          clear hst hm2 KM2
          go_wp2_with fail
          refine hcall.mono ?_
          rintro e w3 ⟨rfl, hc3⟩
          have d := HAt.out.2.calm hc3 HAt.out.1
          have d1 := d.c1
          have d2 := d.c2
          clear d
          go_wp2_with fail
          refine (K1 w3 hc3).mono ?_
          rintro e w4 ⟨A4, n4, q4, rfl, hc4⟩
          have d := HAt.out.2.calm (hc3.trans hc4) HAt.out.1
          have d3 := d.c3
          have d4 := d.c4
          clear d
          go_wp2_with fail
          refine (K2 w4 (hc3.trans hc4)).mono ?_
          rintro e w5 ⟨A5, n5, q5, rfl, hc5⟩
          go_wp2
          go_roundw
          case rel => exact ⟨k, by omega, by go_num, HSt.out.symm, HC.out.trans (hc3.trans (hc4.trans hc5))⟩
          case measure => simp [intOf]
        · rw [hm2] at hst
          have HSt := Lib.hid hst
          have K2 := fun W hW => KM2.out W true hW hm2
          clear hst hm2 KM2
          go_wp2_with fail
          refine hcall.mono ?_
          rintro e w3 ⟨rfl, hc3⟩
          have d := HAt.out.2.calm hc3 HAt.out.1
          have d1 := d.c1
          have d2 := d.c2
          clear d
          go_wp2_with fail
          refine (K1 w3 hc3).mono ?_
          rintro e w4 ⟨A4, n4, q4, rfl, hc4⟩
          have d := HAt.out.2.calm (hc3.trans hc4) HAt.out.1
          have d3 := d.c3
          have d4 := d.c4
          clear d
          go_wp2_with fail
          refine (K2 w4 (hc3.trans hc4)).mono ?_
          rintro e w5 ⟨A5, n5, q5, rfl, hc5⟩
          go_wp2
          go_ret
          exact ⟨ret_bool (by rw [HSt.out]; rfl), HC.out.trans (hc3.trans (hc4.trans hc5))⟩
      · have hm1 : matchS r.left s = true := HFm.out.1 ⟨u, hf⟩
        have hcall := hF _ (fwdV_some hf)
        have K1 := fun W hW => KM1.out W true hW hm1
        rw [hf, hm1, Bool.true_or, if_pos rfl] at hst
        obtain ⟨m2, hm2⟩ : ∃ m2, matchS r.right t = m2 := ⟨_, rfl⟩
        have K2 := fun W hW => KM2.out W m2 hW hm2
        obtain ⟨ex, hex⟩ : ∃ ex, r.excl = ex := ⟨_, rfl⟩
        rw [hex] at hst c0 hcall
        have HX := Lib.hid hex
        clear hF hf hm1 KM1 HFm KM2 hm2 hex
        by_cases hut : u = t
        · subst hut
          cases ex with
          | false =>
            rw [if_pos ⟨rfl, rfl⟩] at hst
            have HSt := Lib.hid hst
            clear hst
            go_wp2_with fail
            refine hcall.mono ?_
            rintro e w3 ⟨rfl, hc3⟩
            have d := HAt.out.2.calm hc3 HAt.out.1
            have d0 := d.c0
            rw [HX.out] at d0
            clear d
            go_wp2_with fail
            go_ret
            exact ⟨ret_bool (by rw [HSt.out]), HC.out.trans hc3⟩
          | true =>
            rw [if_neg (fun h => by cases h.2)] at hst
            have HSt := Lib.hid hst
            clear hst
            go_wp2_with fail
            refine hcall.mono ?_
            rintro e w3 ⟨rfl, hc3⟩
            have d := HAt.out.2.calm hc3 HAt.out.1
            have d0 := d.c0
            have d1 := d.c1
            have d2 := d.c2
            rw [HX.out] at d0
            clear d
            go_wp2_with fail
            refine (K1 w3 hc3).mono ?_
            rintro e w4 ⟨A4, n4, q4, rfl, hc4⟩
            have d := HAt.out.2.calm (hc3.trans hc4) HAt.out.1
            have d3 := d.c3
            have d4 := d.c4
            clear d
            go_wp2_with fail
            refine (K2 w4 (hc3.trans hc4)).mono ?_
            rintro e w5 ⟨A5, n5, q5, rfl, hc5⟩
            go_wp2
            go_ret
            exact ⟨ret_bool (by rw [HSt.out]), HC.out.trans (hc3.trans (hc4.trans hc5))⟩
        · rw [if_neg (fun h => hut (Option.some.inj h.1))] at hst
          have HSt := Lib.hid hst
          have hb1 : (u == t) = false := by simpa using hut
          clear hst hut
          go_wp2_with fail
          refine hcall.mono ?_
          rintro e w3 ⟨rfl, hc3⟩
          have d := HAt.out.2.calm hc3 HAt.out.1
          have d1 := d.c1
          have d2 := d.c2
          clear d
          go_wp2_with fail
          refine (K1 w3 hc3).mono ?_
          rintro e w4 ⟨A4, n4, q4, rfl, hc4⟩
          have d := HAt.out.2.calm (hc3.trans hc4) HAt.out.1
          have d3 := d.c3
          have d4 := d.c4
          clear d
          go_wp2_with fail
          refine (K2 w4 (hc3.trans hc4)).mono ?_
          rintro e w5 ⟨A5, n5, q5, rfl, hc5⟩
          go_wp2
          go_ret
          exact ⟨ret_bool (by rw [HSt.out]), HC.out.trans (hc3.trans (hc4.trans hc5))⟩

theorem rfwdFrom_drop {v : List Rule} {s : Str} {k : Nat} {r : Rule} (h : v[k]? = some r) : rfwdFrom v s (v.drop k) = match fwd r s with
    | some t => if related v s t then some t else rfwdFrom v s (v.drop (k + 1))
    | none => rfwdFrom v s (v.drop (k + 1)) := by
  obtain ⟨hlt, rfl⟩ := List.getElem?_eq_some_iff.1 h
  rw [List.drop_eq_getElem_cons hlt, rfwdFrom]
  rfl

set_option maxHeartbeats 4000000 in
theorem rvfwd_c (v : List Rule) (s : Str) (A : Option Addr) (n c : Nat) (w : World) (hs : s.length ≤ 300) (hM : MaxL w) (hv : RulesU w A v) (hsm : ∀ r ∈ v, SmallV r) (hn : v.length = n) :
    Calls Tryd.prog 22 #[.slice A n c, .string (bs s)] w fun e w' => e = .returned (vfV v s) ∧ Calm w w' := by
  obtain ⟨ix, hix⟩ : ∃ ix, viewIx v = ix := ⟨_, rfl⟩
  obtain ⟨ve, hve⟩ : ∃ ve, viewErr v = ve := ⟨_, rfl⟩
  have hlen := hv.len
  rw [hn] at hlen
  have hk := rvcheck_v v ix ve A n c w hv hsm hn hix hve
  by_cases h0 : ve = 0
  · subst h0
    have hall := (viewErr_ok.1 hve).1
    have hd : Hid (rfwdFrom v s v = vfwd v s) := by
      show rfwdFrom v s v = _
      rw [← rvfwd_eq, rvfwd, if_pos hve]
    have HN := Lib.hid hn
    have HV := Lib.hid hv
    have HSm := Lib.hid hsm
    have HM := Lib.hid hM
    have HE := Lib.hid hall
    clear hn hv hsm hM hix hve hall
    go_enter Tryd.func22, Tryd.ntmps22
    go_wp2_with (go_at_call 17; refine hk.mono ?_; rintro e w2 ⟨rfl, hc2⟩)
    have HC2 := Lib.hid hc2
    clear hk hc2
    go_loopw [21] (fun q wr => ∃ k : Nat, k ≤ n ∧ q = .int .i64 k ∧ Hid (rfwdFrom v s (v.drop k) = vfwd v s) ∧ Hid (Calm w wr)) (fun q _ => n - (intOf q).toNat)
    case atStart => exact ⟨0, Nat.zero_le _, rfl, hd.out, HC2.out⟩
    case round =>
      obtain ⟨k, hk, rfl, HL, HC⟩ := hrel
      by_cases hlt : k < n
      · obtain ⟨b, o, r, a, rfl, hb, hr, hat, hru⟩ := (HV.out.calm HC.out).get (k := k) (by rw [HN.out]; exact hlt)
        have hsr := HSm.out r (List.mem_of_getElem? hr)
        obtain ⟨wB, hwB⟩ : ∃ wB, wB = wr.alloc (.cells #[.bool r.excl, .slice a.AL r.left.parts.length a.cl, .bool r.left.rest, .slice a.AR r.right.parts.length a.cr, .bool r.right.rest] 27) := ⟨_, rfl⟩
        have hcB : Calm wr wB := by rw [hwB]; exact (Calm.refl wr).alloc _
        have hF : ∀ u, fwdV r s = u → Calls Tryd.prog 15 #[.agg #[.bool r.excl, .slice a.AL r.left.parts.length a.cl, .bool r.left.rest, .slice a.AR r.right.parts.length a.cr, .bool r.right.rest], .string (bs s)] wB fun e w' => e = .returned u ∧ Calm wB w' := fun u hu => rfwd_v r a s u wB (hru.calm hcB) hsr (by omega) (HM.out.calm (HC.out.trans hcB)) hu
        have hst := rfwdFrom_drop (s := s) hr
        have HB := Lib.hid hwB
        have HCB := Lib.hid hcB
        have hfl : ∀ t, fwd r s = some t → t.length ≤ 10000 := fun t hf => by have := fwd_len hsr hs hf; omega
        have c0 := hat.c0
        have c1 := hat.c1
        have c2 := hat.c2
        have c3 := hat.c3
        have c4 := hat.c4
        clear hr hat hru hsr hwB hcB
        rcases hf : fwd r s with _ | t
        · have hcall := hF _ (fwdV_none hf)
          unfold noV at hcall
          rw [hf] at hst
          simp only at hst
          rw [HL.out] at hst
          have HSt := Lib.hid hst
          clear hst hF hf hfl
          go_wp2_with (go_at_call 15; rw [← HB.out]; refine hcall.mono ?_; rintro e w3 ⟨rfl, hc3⟩)
          go_roundw
          case rel => exact ⟨k + 1, by omega, by go_num, HSt.out.symm, HC.out.trans (HCB.out.trans hc3)⟩
          case measure => simp [intOf]; omega
        · have hcall := hF _ (fwdV_some hf)
          have htl := hfl t hf
          rw [hf] at hst
          simp only at hst
          rw [HL.out] at hst
          obtain ⟨y, hy⟩ : ∃ y, related v s t = y := ⟨_, rfl⟩
          rw [hy] at hst
          have KR : Hid (∀ W, Calm wB W → Calls Tryd.prog 36 #[.slice (some ⟨b, o, none⟩) n c, .string (bs s), .string (bs t)] W fun e w' => e = .returned (.bool y) ∧ Calm W w') := fun W hW => related_c v s t y _ n c W (by omega) htl (HM.out.calm (HC.out.trans (HCB.out.trans hW))) (HV.out.calm (HC.out.trans (HCB.out.trans hW))) HSm.out HN.out HE.out hy
          clear hF hf hfl hy htl
          cases y with
          | true =>
            have HSt := Lib.hid (vfV_some hst)
            clear hst
            go_wp2_with (first
              | (go_at_call 15; rw [← HB.out]; refine hcall.mono ?_; rintro e w3 ⟨rfl, hc3⟩)
              | (go_at_call 36; refine (KR.out w3 hc3).mono ?_; rintro e w4 ⟨rfl, hc4⟩))
            go_ret2
            exact ⟨by rw [HSt.out]; rfl, HC.out.trans (HCB.out.trans (hc3.trans hc4))⟩
          | false =>
            have HSt := Lib.hid hst
            clear hst
            go_wp2_with (first
              | (go_at_call 15; rw [← HB.out]; refine hcall.mono ?_; rintro e w3 ⟨rfl, hc3⟩)
              | (go_at_call 36; refine (KR.out w3 hc3).mono ?_; rintro e w4 ⟨rfl, hc4⟩))
            go_roundw
            case rel => exact ⟨k + 1, by omega, by go_num, HSt.out.symm, HC.out.trans (HCB.out.trans (hc3.trans hc4))⟩
            case measure => simp [intOf]; omega
      · obtain rfl : k = n := by omega
        have hE : Hid (vfwd v s = none) := by
          show vfwd v s = none
          rw [← HL.out, List.drop_of_length_le (by rw [HN.out]; exact Nat.le_refl _)]
          rfl
        have HE2 := Lib.hid (vfV_no hE.out)
        go_wp2
        go_ret2
        exact ⟨by rw [HE2.out]; rfl, HC.out⟩
  · have hE := Lib.hid (vfV_no (vfwd_err (s := s) (v := v) (by rw [hve]; exact h0)))
    have hvb : (ve != 0) = true := by simpa using h0
    clear hv hsm hM hn h0 hix hve
    go_enter Tryd.func22, Tryd.ntmps22
    go_wp2_with (go_at_call 17; refine hk.mono ?_; rintro e w2 ⟨rfl, hc2⟩)
    go_ret2
    exact ⟨by rw [hE.out]; rfl, hc2⟩
theorem rvfwd_v (v : List Rule) (s : Str) (u : Value) (A : Option Addr) (n c : Nat) (w : World) (hs : s.length ≤ 300) (hM : MaxL w) (hv : RulesU w A v) (hsm : ∀ r ∈ v, SmallV r) (hn : v.length = n) (hu : vfV v s = u) :
    Calls Tryd.prog 22 #[.slice A n c, .string (bs s)] w fun e w' => e = .returned u ∧ Calm w w' := hu ▸ rvfwd_c v s A n c w hs hM hv hsm hn
end Go.Proofs.YtoaelfdkamgdaaaDoor
