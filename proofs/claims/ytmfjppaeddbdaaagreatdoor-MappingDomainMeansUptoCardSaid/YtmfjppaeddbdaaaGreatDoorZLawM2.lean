/- Walks: the laws MappingInverts, MappingInverseMeans, MappingDomainMeans. -/
import Derived.Test.YtmfjppaeddbdaaaGreatDoorZLawM1
set_option linter.unusedVariables false
set_option linter.unusedSimpArgs false
namespace Go.Proofs.YtmfjppaeddbdaaaGreatDoor
open Go Go.RowKit Sy

theorem dom_goodE {es : List Ent} : ∀ g ∈ (domE es).1, gErr g = 0 := by
  unfold domE
  by_cases h0 : (mapE es).2 ≠ 0
  · rw [if_pos h0]
    intro g hg
    cases hg
  · rw [if_neg h0]
    exact dom_good (mapE_zero (by simpa using h0)).1
theorem domE_len (es : List Ent) : (domE es).1.length ≤ es.length := by
  unfold domE
  split
  · exact Nat.zero_le _
  · exact List.length_filterMap_le _ _
theorem invE_len (es : List Ent) : (invE es).1.length ≤ es.length := by
  unfold invE
  split
  · exact Nat.zero_le _
  · exact List.length_filterMap_le _ _
set_option maxHeartbeats 4000000 in
theorem mappingInverts_c (es : List Ent) (n c : Nat) (A : Option Addr) (w : World) (h : EntsA w A es) (hcn : n ≤ c) (hcc : c ≤ 9223372036854775807) (hn : es.length = n) (hM : MaxL w) :
    Calls Tryz.prog 4 #[.slice A n c] w fun e w' => e = .returned (.bool true) ∧ Calm w w' := by
  have hl : n ≤ 1048576 := by rw [← hn]; exact h.1
  have KS := Lib.hid (smallK es n c A w h hcn hcc hn)
  have KA : Hid (∀ W, Calm w W → Calls Tryz.prog 11 #[] W fun e w' => e = .returned (.bool true) ∧ Calm W w') := fun W hW => awakeM_c W (hM.calm hW)
  obtain ⟨ie, hie⟩ : ∃ ie, (invE es).1 = ie := ⟨_, rfl⟩
  obtain ⟨ix, hix⟩ : ∃ ix, (invE es).2 = ix := ⟨_, rfl⟩
  obtain ⟨il, hil⟩ : ∃ il, ie.length = il := ⟨_, rfl⟩
  obtain ⟨de, hde⟩ : ∃ de, (domE es).1 = de := ⟨_, rfl⟩
  obtain ⟨dx, hdx⟩ : ∃ dx, (domE es).2 = dx := ⟨_, rfl⟩
  obtain ⟨dl, hdl⟩ : ∃ dl, de.length = dl := ⟨_, rfl⟩
  have hill : il ≤ 1048576 := by
    have := invE_len es
    rw [hie, hil, hn] at this
    omega
  have hdll : dl ≤ 1048576 := by
    have := domE_len es
    rw [hde, hdl, hn] at this
    omega
  have KI : Hid ((∀ x ∈ es, SizeE 60 x) → ∀ W, Calm w W → Calls Tryz.prog 14 #[.slice A n c] W fun e w' => (∃ A2 c2, e = .returned (.tuple #[.slice A2 il c2, .int .i64 ix]) ∧ EntsR w' A2 ie) ∧ Calm W w') := fun hs W hW =>
    (minv_c es n c A W (h.calm hW) hcn hcc hn (fun x hx => (hs x hx).mono (by decide))).mono fun e w' ⟨h1, h2⟩ => by
      obtain ⟨A2, c2, h3, _, _, h4⟩ := h1.r
      rw [hie, hix, hil] at h3
      rw [hie] at h4
      exact ⟨⟨A2, c2, h3, h4⟩, h2⟩
  have KJ : Hid ((∀ x ∈ es, SizeE 60 x) → ∀ W, Calm w W → Calls Tryz.prog 15 #[.slice A n c] W fun e w' => (∃ A2 c2, e = .returned (.tuple #[.slice A2 il c2, .int .i64 ix]) ∧ EntsR w' A2 ie) ∧ Calm W w') := fun hs W hW =>
    (rinv_c es n c A W (h.calm hW) hcn hcc hn (fun x hx => (hs x hx).mono (by decide))).mono fun e w' ⟨h1, h2⟩ => by
      obtain ⟨A2, c2, h3, _, _, h4⟩ := h1
      rw [hie, hix, hil] at h3
      rw [hie] at h4
      exact ⟨⟨A2, c2, h3, h4⟩, h2⟩
  have KE : Hid (∀ W A2 c2 A3 c3, EntsR W A2 ie → EntsR W A3 ie → Calls Tryz.prog 16 #[.slice A2 il c2, .slice A3 il c3] W fun e w' => e = .returned (.bool true) ∧ Calm W w') := fun W A2 c2 A3 c3 h1 h2 =>
    sameE_c ie il c2 c3 A2 A3 W h1 h2 hil (by omega)
  have KD : Hid ((∀ x ∈ es, SizeE 60 x) → ∀ W, Calm w W → Calls Tryz.prog 17 #[.slice A n c] W fun e w' => (∃ A2 c2, e = .returned (.tuple #[.slice A2 dl c2, .int .i64 dx]) ∧ dl ≤ c2 ∧ GrsR w' A2 de) ∧ Calm W w') := fun hs W hW =>
    (mdom_c es n c A W (h.calm hW) hcn hcc hn (fun x hx => (hs x hx).mono (by decide))).mono fun e w' ⟨h1, h2⟩ => by
      obtain ⟨A2, c2, h3, h5, _, h4⟩ := h1.r dom_goodE
      rw [hde, hdx, hdl] at h3
      rw [hde] at h4 h5
      rw [hdl] at h5
      exact ⟨⟨A2, c2, h3, h5, h4⟩, h2⟩
  have KDR : Hid ((∀ x ∈ es, SizeE 60 x) → ∀ W, Calm w W → Calls Tryz.prog 18 #[.slice A n c] W fun e w' => (∃ A2 c2, e = .returned (.tuple #[.slice A2 dl c2, .int .i64 dx]) ∧ dl ≤ c2 ∧ GrsR w' A2 de) ∧ Calm W w') := fun hs W hW =>
    (rdom_c es n c A W (h.calm hW) hcn hcc hn (fun x hx => (hs x hx).mono (by decide))).mono fun e w' ⟨h1, h2⟩ => by
      obtain ⟨A2, c2, h3, h5, _, h4⟩ := h1
      rw [hde, hdx, hdl] at h3
      rw [hde] at h4 h5
      rw [hdl] at h5
      exact ⟨⟨A2, c2, h3, h5, h4⟩, h2⟩
  have KG : Hid (∀ W A2 c2 A3 c3, GrsR W A2 de → GrsR W A3 de → dl ≤ c2 → dl ≤ c3 → Calls Tryz.prog 19 #[.slice A2 dl c2, .slice A3 dl c3] W fun e w' => e = .returned (.bool true) ∧ Calm W w') := fun W A2 c2 A3 c3 h1 h2 h3 h4 =>
    regions_c de dl c2 c3 A2 A3 W h1 h2 hdl hdll h3 h4
  clear h hn hM hie hix hil hde hdx hdl
  go_enter Tryz.func4, Tryz.ntmps4
  go_wp2_with fail
  refine KS.out.mono ?_
  rintro e w2 ⟨⟨b, rfl, hb⟩, hc2⟩
  have HB := Lib.hid hb
  have HC2 : Hid (Calm w w2) := hc2
  clear hb hc2
  cases b with
  | false =>
    go_wp2_with fail
    refine (KA.out w2 HC2.out).mono ?_
    rintro e w3 ⟨rfl, hc3⟩
    go_wp2_with fail
    go_ret
    exact ⟨rfl, HC2.out.trans hc3⟩
  | true =>
    have HS := Lib.hid (HB.out rfl)
    go_wp2_with fail
    refine (KI.out HS.out w2 HC2.out).mono ?_
    rintro e w3 ⟨⟨A3, c3, rfl, hE3⟩, hc3⟩
    have HC3 : Hid (Calm w w3) := HC2.out.trans hc3
    have HE3 := Lib.hid hE3
    clear hc3 hE3
    go_wp2_with fail
    refine (KJ.out HS.out w3 HC3.out).mono ?_
    rintro e w4 ⟨⟨A4, c4, rfl, hE4⟩, hc4⟩
    have HC4 : Hid (Calm w w4) := HC3.out.trans hc4
    have HE4 := Lib.hid hE4
    have HE34 := Lib.hid (HE3.out.calm hc4)
    clear hc4 hE4
    go_wp2_with fail
    refine (KE.out w4 A3 c3 A4 c4 HE34.out HE4.out).mono ?_
    rintro e w5 ⟨rfl, hc5⟩
    have HC5 : Hid (Calm w w5) := HC4.out.trans hc5
    clear hc5
    go_wp2_with fail
    refine (KD.out HS.out w5 HC5.out).mono ?_
    rintro e w6 ⟨⟨A6, c6, rfl, hl6, hG6⟩, hc6⟩
    have HC6 : Hid (Calm w w6) := HC5.out.trans hc6
    have HG6 := Lib.hid hG6
    clear hc6 hG6
    go_wp2_with fail
    refine (KDR.out HS.out w6 HC6.out).mono ?_
    rintro e w7 ⟨⟨A7, c7, rfl, hl7, hG7⟩, hc7⟩
    have HC7 : Hid (Calm w w7) := HC6.out.trans hc7
    have HG7 := Lib.hid hG7
    have HG67 := Lib.hid (HG6.out.calm hc7)
    clear hc7 hG7
    go_wp2_with fail
    refine (KG.out w7 A6 c6 A7 c7 HG67.out HG7.out hl6 hl7).mono ?_
    rintro e w8 ⟨rfl, hc8⟩
    have HC8 : Hid (Calm w w8) := HC7.out.trans hc8
    clear hc8
    go_wp2_with fail
    refine (KA.out w8 HC8.out).mono ?_
    rintro e w9 ⟨rfl, hc9⟩
    go_wp2_with fail
    go_ret
    exact ⟨rfl, HC8.out.trans hc9⟩
theorem dom_cnt {es : List Ent} (h : (domE es).2 = 0) (s : Str) : (domE es).1.countP (fun g => hasS g.b g.hs s) = if (mfS es s).isSome then 1 else 0 := by
  unfold domE at h ⊢
  by_cases h0 : (mapE es).2 ≠ 0
  · rw [if_pos h0] at h
    exact absurd h h0
  · rw [if_neg h0]
    have hz : (mapE es).2 = 0 := by simpa using h0
    have hm := (mapE_zero hz).1
    unfold mfS
    rw [if_pos hz]
    rcases hp : pathOf s with _ | l
    · have e1 : (es.filterMap domOf).countP (fun g => hasS g.b g.hs s) = 0 := by
        rw [List.countP_eq_zero]
        intro g hg
        rw [hasS_nopath hp]
        simp
      have e2 : fwdM es s = none := by
        unfold fwdM
        rw [hp]
      rw [e2]
      exact e1
    · rw [← dom_count hm hp]
      refine List.countP_congr fun g hg => ?_
      have hgg := dom_good hm g hg
      rw [hasS_hasR (gErr_zero hgg).1 (gErr_zero hgg).2.1]
      unfold hasR
      rw [hp]
      exact Iff.rfl
set_option maxHeartbeats 4000000 in
theorem mappingDomainMeans_c (es : List Ent) (s : Str) (n c : Nat) (A : Option Addr) (w : World) (h : EntsA w A es) (hcn : n ≤ c) (hcc : c ≤ 9223372036854775807) (hn : es.length = n) (hsl : s.length ≤ 1048576) (hM : MaxL w) :
    Calls Tryz.prog 8 #[.slice A n c, .string (bs s)] w fun e w' => e = .returned (.bool true) ∧ Calm w w' := by
  have hl : n ≤ 1048576 := by rw [← hn]; exact h.1
  have KS := Lib.hid (smallK es n c A w h hcn hcc hn)
  have KA : Hid (∀ W, Calm w W → Calls Tryz.prog 11 #[] W fun e w' => e = .returned (.bool true) ∧ Calm W w') := fun W hW => awakeM_c W (hM.calm hW)
  obtain ⟨ft, hft⟩ : ∃ ft, bs ((mfS es s).getD []) = ft := ⟨_, rfl⟩
  obtain ⟨fo, hfo⟩ : ∃ fo, (mfS es s).isSome = fo := ⟨_, rfl⟩
  have eF : mfV es s = .tuple #[.string ft, .bool fo] := by rw [mfV_eq, optV, hft, hfo]
  have KF : Hid ((∀ x ∈ es, SizeE 60 x) → s.length ≤ 300 → ∀ W, Calm w W → Calls Tryz.prog 21 #[.slice A n c, .string (bs s)] W fun e w' => e = .returned (.tuple #[.string ft, .bool fo]) ∧ Calm W w') := fun hs h3 W hW => by
    have := mfwd_c es s n c A W (h.calm hW) hcn hcc hn (fun x hx => (hs x hx).mono (by decide)) (by omega) (hM.calm hW)
    rw [eF] at this
    exact this
  obtain ⟨de, hde⟩ : ∃ de, (domE es).1 = de := ⟨_, rfl⟩
  obtain ⟨dx, hdx⟩ : ∃ dx, (domE es).2 = dx := ⟨_, rfl⟩
  obtain ⟨dl, hdl⟩ : ∃ dl, de.length = dl := ⟨_, rfl⟩
  have hdll : dl ≤ 1048576 := by
    have := domE_len es
    rw [hde, hdl, hn] at this
    omega
  have KD : Hid ((∀ x ∈ es, SizeE 60 x) → ∀ W, Calm w W → Calls Tryz.prog 17 #[.slice A n c] W fun e w' => (∃ A2 c2, e = .returned (.tuple #[.slice A2 dl c2, .int .i64 dx]) ∧ dl ≤ c2 ∧ GrsR w' A2 de) ∧ Calm W w') := fun hs W hW =>
    (mdom_c es n c A W (h.calm hW) hcn hcc hn (fun x hx => (hs x hx).mono (by decide))).mono fun e w' ⟨h1, h2⟩ => by
      obtain ⟨A2, c2, h3, h5, _, h4⟩ := h1.r dom_goodE
      rw [hde, hdx, hdl] at h3
      rw [hde] at h4 h5
      rw [hdl] at h5
      exact ⟨⟨A2, c2, h3, h5, h4⟩, h2⟩
  have KN : dx = 0 → Hid (s.length ≤ 300 → ∀ W A2 c2, Calm w W → GrsR W A2 de → Calls Tryz.prog 27 #[.slice A2 dl c2, .string (bs s)] W fun e w' => e = .returned (.int .i64 ((if fo then 1 else 0 : Nat) : Int)) ∧ Calm W w') := fun h0 h3 W A2 c2 hW hG => by
    have := count_c de s dl c2 A2 W hG hdl hdll (by rw [← hde]; exact dom_goodE) (by omega) (hM.calm hW)
    rw [← hde, dom_cnt (hdx.trans h0), hfo] at this
    exact this
  have hsz : (bs s).size = s.length := by simp [bs, ByteArray.size]
  clear h hn hM hft hfo eF hde hdx hdl
  go_enter Tryz.func8, Tryz.ntmps8
  go_wp2_with fail
  refine KS.out.mono ?_
  rintro e w2 ⟨⟨b, rfl, hb⟩, hc2⟩
  have HB := Lib.hid hb
  have HC2 : Hid (Calm w w2) := hc2
  clear hb hc2
  cases b with
  | false =>
    go_wp2_with fail
    refine (KA.out w2 HC2.out).mono ?_
    rintro e w3 ⟨rfl, hc3⟩
    go_wp2_with fail
    go_ret
    exact ⟨rfl, HC2.out.trans hc3⟩
  | true =>
    have HS := Lib.hid (HB.out rfl)
    by_cases h3 : s.length ≤ 300
    · go_wp2_with fail
      refine (KD.out HS.out w2 HC2.out).mono ?_
      rintro e w3 ⟨⟨A3, c3, rfl, hl3, hG3⟩, hc3⟩
      have HC3 : Hid (Calm w w3) := HC2.out.trans hc3
      have HG3 := Lib.hid hG3
      clear hc3 hG3
      by_cases h0 : dx = 0
      · subst h0
        have KN1 := KN rfl
        clear KN
        go_wp2_with fail
        refine (KF.out HS.out h3 w3 HC3.out).mono ?_
        rintro e w4 ⟨rfl, hc4⟩
        have HC4 : Hid (Calm w w4) := HC3.out.trans hc4
        have HG4 := Lib.hid (HG3.out.calm hc4)
        clear hc4
        go_wp2_with fail
        refine (KN1.out h3 w4 A3 c3 HC4.out HG4.out).mono ?_
        rintro e w5 ⟨rfl, hc5⟩
        have HC5 : Hid (Calm w w5) := HC4.out.trans hc5
        clear hc5
        cases fo with
        | true =>
          simp only [if_true]
          go_wp2_with fail
          refine (KA.out w5 HC5.out).mono ?_
          rintro e w6 ⟨rfl, hc6⟩
          go_wp2_with fail
          go_ret
          exact ⟨rfl, HC5.out.trans hc6⟩
        | false =>
          simp only [Bool.false_eq_true, if_false]
          go_wp2_with fail
          refine (KA.out w5 HC5.out).mono ?_
          rintro e w6 ⟨rfl, hc6⟩
          go_wp2_with fail
          go_ret
          exact ⟨rfl, HC5.out.trans hc6⟩
      · have hb : (dx != 0) = true := by simpa using h0
        clear KN h0
        go_wp2_with fail
        refine (KA.out w3 HC3.out).mono ?_
        rintro e w4 ⟨rfl, hc4⟩
        go_wp2_with fail
        go_ret
        exact ⟨rfl, HC3.out.trans hc4⟩
    · go_wp2_with fail
      refine (KA.out w2 HC2.out).mono ?_
      rintro e w3 ⟨rfl, hc3⟩
      go_wp2_with fail
      go_ret
      exact ⟨rfl, HC2.out.trans hc3⟩
theorem right_size {x : Ent} {ks : List Pat} (h : SizeE 60 x) (hk : rightHs x.rule x.hs = some ks) : ∀ p ∈ ks, ∀ s ∈ p.parts, s.length ≤ 120 := fun p hp s hs => by
  obtain ⟨y, hy, n, hn, rfl⟩ := ((rightHs_mem hk).2 p).1 hp
  exact narL_each hn (L := 60) (by decide) h.ls h.rs (h.h y hy).2 s hs
theorem red_size {b : Pat} {ps : List Pat} {L : Nat} (hL : 1 ≤ L) (hb : ∀ s ∈ b.parts, s.length ≤ L) (hp : ∀ p ∈ ps, ∀ s ∈ p.parts, s.length ≤ L) : ∀ q ∈ redL b ps, ∀ s ∈ q.parts, s.length ≤ L := fun q hq s hs => by
  obtain ⟨p, hpm, hm⟩ := meetsL_mem.1 (redL_mem.1 hq).1
  exact meet_each hm hb (hp p hpm) hL s hs
theorem inv_size {es : List Ent} (h : ∀ x ∈ es, SizeE 60 x) : ∀ x ∈ (invE es).1, SmallE x := fun y hy => by
  unfold invE at hy
  by_cases h0 : (mapE es).2 ≠ 0
  · rw [if_pos h0] at hy
    cases hy
  · rw [if_neg h0] at hy
    have hm := (mapE_zero (by simpa using h0)).1
    obtain ⟨x, hx, hi⟩ := List.mem_filterMap.1 hy
    have hgd := inv_good (hm.good x hx).1 (hm.good x hx).2 hi
    obtain ⟨g, hg, _, rfl⟩ := inv_mem hi
    obtain ⟨ks, hks, rfl⟩ := Option.map_eq_some_iff.1 hg
    have hs := h x hx
    refine ⟨hs.rp, fun s hs' => by have := hs.rs s hs'; omega, hs.lp, fun s hs' => by have := hs.ls s hs'; omega, fun p hp => ⟨?_, fun s hs' => ?_⟩⟩
    · have := (patErr_iff.1 (redL_good p hp)).2.2.1
      omega
    · have := red_size (L := 120) (by decide) (fun s hs' => by have := hs.rs s hs'; omega) (right_size hs hks) p hp s hs'
      omega
set_option maxHeartbeats 8000000 in
theorem mappingInverseMeans_c (es : List Ent) (s : Str) (n c : Nat) (A : Option Addr) (w : World) (h : EntsA w A es) (hcn : n ≤ c) (hcc : c ≤ 9223372036854775807) (hn : es.length = n) (hsl : s.length ≤ 1048576) (hM : MaxL w) :
    Calls Tryz.prog 5 #[.slice A n c, .string (bs s)] w fun e w' => e = .returned (.bool true) ∧ Calm w w' := by
  have hl : n ≤ 1048576 := by rw [← hn]; exact h.1
  have KS := Lib.hid (smallK es n c A w h hcn hcc hn)
  have KA : Hid (∀ W, Calm w W → Calls Tryz.prog 11 #[] W fun e w' => e = .returned (.bool true) ∧ Calm W w') := fun W hW => awakeM_c W (hM.calm hW)
  obtain ⟨ft, hft⟩ : ∃ ft, bs ((mfS es s).getD []) = ft := ⟨_, rfl⟩
  obtain ⟨fo, hfo⟩ : ∃ fo, (mfS es s).isSome = fo := ⟨_, rfl⟩
  obtain ⟨bo, hbo⟩ : ∃ bo, mbS es s = bo := ⟨_, rfl⟩
  obtain ⟨bb, hbb⟩ : ∃ bb, bo.isSome = bb := ⟨_, rfl⟩
  obtain ⟨bt, hbt⟩ : ∃ bt, bo.getD [] = bt := ⟨_, rfl⟩
  obtain ⟨ie, hie⟩ : ∃ ie, (invE es).1 = ie := ⟨_, rfl⟩
  obtain ⟨ix, hix⟩ : ∃ ix, (invE es).2 = ix := ⟨_, rfl⟩
  obtain ⟨il, hil⟩ : ∃ il, ie.length = il := ⟨_, rfl⟩
  have hill : il ≤ 1048576 := by
    have := invE_len es
    rw [hie, hil, hn] at this
    omega
  have eF : mfV es s = .tuple #[.string ft, .bool fo] := by rw [mfV_eq, optV, hft, hfo]
  have eB : mbV es s = .tuple #[.string (bs bt), .bool bb] := by rw [mbV_eq, optV, hbo, hbt, hbb]
  have eFI : ix = 0 → mfV ie s = .tuple #[.string (bs bt), .bool bb] := fun h0 => by rw [mfV_eq, ← hie, ((inv_ok (hix.trans h0)).2.2 s).1, optV, hbo, hbt, hbb]
  have eBI : ix = 0 → mbV ie s = .tuple #[.string ft, .bool fo] := fun h0 => by rw [mbV_eq, ← hie, ((inv_ok (hix.trans h0)).2.2 s).2, optV, hft, hfo]
  have KI : Hid ((∀ x ∈ es, SizeE 60 x) → ∀ W, Calm w W → Calls Tryz.prog 14 #[.slice A n c] W fun e w' => (∃ A2 c2, e = .returned (.tuple #[.slice A2 il c2, .int .i64 ix]) ∧ EntsA w' A2 ie ∧ il ≤ c2 ∧ c2 ≤ 9223372036854775807) ∧ Calm W w') := fun hs W hW =>
    (minv_c es n c A W (h.calm hW) hcn hcc hn (fun x hx => (hs x hx).mono (by decide))).mono fun e w' ⟨h1, h2⟩ => by
      obtain ⟨A2, c2, h3, h5, h6, zs, h7, h8, h9⟩ := h1
      rw [hie, hix, hil] at h3
      rw [hie] at h5 h7
      rw [hil] at h5
      exact ⟨⟨A2, c2, h3, entsA_of h7 h8 h9 (by rw [hil]; exact hill), h5, h6⟩, h2⟩
  have KF : Hid ((∀ x ∈ es, SizeE 60 x) → s.length ≤ 300 → ∀ W, Calm w W → Calls Tryz.prog 21 #[.slice A n c, .string (bs s)] W fun e w' => e = .returned (.tuple #[.string ft, .bool fo]) ∧ Calm W w') := fun hs h3 W hW => by
    have := mfwd_c es s n c A W (h.calm hW) hcn hcc hn (fun x hx => (hs x hx).mono (by decide)) (by omega) (hM.calm hW)
    rw [eF] at this
    exact this
  have KFb : bb = true → Hid ((∀ x ∈ es, SizeE 60 x) → s.length ≤ 300 → ∀ W, Calm w W → Calls Tryz.prog 21 #[.slice A n c, .string (bs bt)] W fun e w' => e = .returned (.tuple #[.string (bs s), .bool true]) ∧ Calm W w') := fun hb hs h3 W hW => by
    have hbs : mbS es s = some bt := by
      rw [hbo, ← hbt]
      rw [← hbb] at hb
      cases bo with
      | none => cases hb
      | some t => rfl
    have := mfwd_c es bt n c A W (h.calm hW) hcn hcc hn (fun x hx => (hs x hx).mono (by decide)) (by have := bwS_len (fun x hx => (hs x hx).mono (by decide)) h3 hbs; omega) (hM.calm hW)
    rw [mfV_eq, back_forth hbs] at this
    exact this
  have KB : Hid ((∀ x ∈ es, SizeE 60 x) → s.length ≤ 300 → ∀ W, Calm w W → Calls Tryz.prog 20 #[.slice A n c, .string (bs s)] W fun e w' => e = .returned (.tuple #[.string (bs bt), .bool bb]) ∧ Calm W w') := fun hs h3 W hW => by
    have := mbwd_c es s n c A W (h.calm hW) hcn hcc hn (fun x hx => (hs x hx).mono (by decide)) h3 (hM.calm hW)
    rw [eB] at this
    exact this
  have KFI : ix = 0 → Hid ((∀ x ∈ es, SizeE 60 x) → s.length ≤ 300 → ∀ W A2 c2, Calm w W → EntsA W A2 ie → il ≤ c2 → c2 ≤ 9223372036854775807 → Calls Tryz.prog 21 #[.slice A2 il c2, .string (bs s)] W fun e w' => e = .returned (.tuple #[.string (bs bt), .bool bb]) ∧ Calm W w') := fun h0 hs h3 W A2 c2 hW h1 h2 h4 => by
    have := mfwd_c ie s il c2 A2 W h1 h2 h4 hil (by rw [← hie]; exact inv_size hs) (by omega) (hM.calm hW)
    rw [eFI h0] at this
    exact this
  have KBI : ix = 0 → Hid ((∀ x ∈ es, SizeE 60 x) → s.length ≤ 300 → ∀ W A2 c2, Calm w W → EntsA W A2 ie → il ≤ c2 → c2 ≤ 9223372036854775807 → Calls Tryz.prog 20 #[.slice A2 il c2, .string (bs s)] W fun e w' => e = .returned (.tuple #[.string ft, .bool fo]) ∧ Calm W w') := fun h0 hs h3 W A2 c2 hW h1 h2 h4 => by
    have := mbwd_c ie s il c2 A2 W h1 h2 h4 hil (by rw [← hie]; exact inv_size hs) h3 (hM.calm hW)
    rw [eBI h0] at this
    exact this
  have hsz : (bs s).size = s.length := by simp [bs, ByteArray.size]
  clear h hn hM hft hfo hbo hbb hbt eF eB eFI eBI hie hix hil
  go_enter Tryz.func5, Tryz.ntmps5
  go_wp2_with fail
  refine KS.out.mono ?_
  rintro e w2 ⟨⟨b, rfl, hb⟩, hc2⟩
  have HB := Lib.hid hb
  have HC2 : Hid (Calm w w2) := hc2
  clear hb hc2
  cases b with
  | false =>
    go_wp2_with fail
    refine (KA.out w2 HC2.out).mono ?_
    rintro e w3 ⟨rfl, hc3⟩
    go_wp2_with fail
    go_ret
    exact ⟨rfl, HC2.out.trans hc3⟩
  | true =>
    have HS := Lib.hid (HB.out rfl)
    by_cases h3 : s.length ≤ 300
    · go_wp2_with fail
      refine (KI.out HS.out w2 HC2.out).mono ?_
      rintro e w3 ⟨⟨A3, c3, rfl, hE3, hl3, hk3⟩, hc3⟩
      have HC3 : Hid (Calm w w3) := HC2.out.trans hc3
      have HE3 := Lib.hid hE3
      clear hc3 hE3
      by_cases h0 : ix = 0
      · subst h0
        have KF1 := KFI rfl
        have KB1 := KBI rfl
        clear KFI KBI
        go_wp2_with fail
        refine (KB.out HS.out h3 w3 HC3.out).mono ?_
        rintro e w4 ⟨rfl, hc4⟩
        have HC4 : Hid (Calm w w4) := HC3.out.trans hc4
        have HE4 := Lib.hid (HE3.out.calm hc4)
        clear hc4
        go_wp2_with fail
        refine (KF1.out HS.out h3 w4 A3 c3 HC4.out HE4.out hl3 hk3).mono ?_
        rintro e w5 ⟨rfl, hc5⟩
        have HC5 : Hid (Calm w w5) := HC4.out.trans hc5
        have HE5 := Lib.hid (HE4.out.calm hc5)
        clear hc5
        cases bb with
        | true =>
          have KFb1 := KFb rfl
          clear KFb
          go_wp2_with fail
          refine (KFb1.out HS.out h3 w5 HC5.out).mono ?_
          rintro e w6 ⟨rfl, hc6⟩
          have HC6 : Hid (Calm w w6) := HC5.out.trans hc6
          have HE6 := Lib.hid (HE5.out.calm hc6)
          clear hc6
          go_wp2_with fail
          refine (KF.out HS.out h3 w6 HC6.out).mono ?_
          rintro e w7 ⟨rfl, hc7⟩
          have HC7 : Hid (Calm w w7) := HC6.out.trans hc7
          have HE7 := Lib.hid (HE6.out.calm hc7)
          clear hc7
          go_wp2_with fail
          refine (KB1.out HS.out h3 w7 A3 c3 HC7.out HE7.out hl3 hk3).mono ?_
          rintro e w8 ⟨rfl, hc8⟩
          have HC8 : Hid (Calm w w8) := HC7.out.trans hc8
          clear hc8
          go_wp2_with fail
          refine (KA.out w8 HC8.out).mono ?_
          rintro e w9 ⟨rfl, hc9⟩
          go_wp2_with fail
          go_ret
          exact ⟨rfl, HC8.out.trans hc9⟩
        | false =>
          clear KFb
          go_wp2_with fail
          refine (KF.out HS.out h3 w5 HC5.out).mono ?_
          rintro e w7 ⟨rfl, hc7⟩
          have HC7 : Hid (Calm w w7) := HC5.out.trans hc7
          have HE7 := Lib.hid (HE5.out.calm hc7)
          clear hc7
          go_wp2_with fail
          refine (KB1.out HS.out h3 w7 A3 c3 HC7.out HE7.out hl3 hk3).mono ?_
          rintro e w8 ⟨rfl, hc8⟩
          have HC8 : Hid (Calm w w8) := HC7.out.trans hc8
          clear hc8
          go_wp2_with fail
          refine (KA.out w8 HC8.out).mono ?_
          rintro e w9 ⟨rfl, hc9⟩
          go_wp2_with fail
          go_ret
          exact ⟨rfl, HC8.out.trans hc9⟩
      · have hb : (ix != 0) = true := by simpa using h0
        clear KFI KBI h0
        go_wp2_with fail
        refine (KA.out w3 HC3.out).mono ?_
        rintro e w4 ⟨rfl, hc4⟩
        go_wp2_with fail
        go_ret
        exact ⟨rfl, HC3.out.trans hc4⟩
    · go_wp2_with fail
      refine (KA.out w2 HC2.out).mono ?_
      rintro e w3 ⟨rfl, hc3⟩
      go_wp2_with fail
      go_ret
      exact ⟨rfl, HC2.out.trans hc3⟩
end Go.Proofs.YtmfjppaeddbdaaaGreatDoor
