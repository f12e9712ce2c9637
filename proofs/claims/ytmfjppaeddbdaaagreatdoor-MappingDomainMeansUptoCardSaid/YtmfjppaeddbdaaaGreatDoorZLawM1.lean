/- Walks: the laws MappingChecks, MappingMaps, MappingInverts, MappingInverseMeans, MappingDomainMeans. -/
import Derived.Deep.RegionLaw
import Derived.Deep.RegionHeld3
import Derived.Test.YtmfjppaeddbdaaaGreatDoorZRedM
import Derived.Test.YtmfjppaeddbdaaaGreatDoorZInvM
import Derived.Test.YtmfjppaeddbdaaaGreatDoorZFwdM
import Derived.Test.YtmfjppaeddbdaaaGreatDoorZRRowM
import Derived.Test.YtmfjppaeddbdaaaGreatDoorZVoidB
import Derived.Test.YtmfjppaeddbdaaaGreatDoorZCopyP
import Derived.Test.YtmfjppaeddbdaaaGreatDoorZWalkI
import Derived.Test.YtmfjppaeddbdaaaGreatDoorZKinds
import Derived.Test.YtmfjppaeddbdaaaGreatDoorZBwdM
import Derived.Test.YtmfjppaeddbdaaaGreatDoorZRSimpW
import Derived.Test.YtmfjppaeddbdaaaGreatDoorZMapR
import Derived.Test.YtmfjppaeddbdaaaGreatDoorZRightW
import Derived.Test.YtmfjppaeddbdaaaGreatDoorZSmallM
import Derived.Test.YtmfjppaeddbdaaaGreatDoorZRSameG
import Derived.Test.YtmfjppaeddbdaaaGreatDoorZEntM
set_option linter.unusedVariables false
set_option linter.unusedSimpArgs false
namespace Go.Proofs.YtmfjppaeddbdaaaGreatDoor
open Go Go.RowKit Sy

theorem domOf_zero {x : Ent} (h64 : ¬ 64 < (redL x.left x.hs).length) (h : (leastLen x.left (redL x.left x.hs) == 0) = true) : domOf x = none := by
  unfold domOf redG
  rw [if_neg h64, if_pos (by simpa using h)]
  rfl
theorem domOf_one {x : Ent} (h64 : ¬ 64 < (redL x.left x.hs).length) (h : (leastLen x.left (redL x.left x.hs) == 0) = false) : domOf x = some ⟨x.left, redL x.left x.hs⟩ := by
  unfold domOf redG
  rw [if_neg h64, if_neg (by simpa using h)]
  rfl
set_option maxHeartbeats 8000000 in
theorem mdom_c (es : List Ent) (n c : Nat) (A : Option Addr) (w : World) (h : EntsA w A es) (hcn : n ≤ c) (hcc : c ≤ 9223372036854775807) (hn : es.length = n) (hsm : ∀ x ∈ es, SmallE x) :
    Calls Tryz.prog 17 #[.slice A n c] w fun e w' => RegOut (domE es).1 (domE es).2 w.heap.size e w' ∧ Calm w w' := by
  have hl : n ≤ 1048576 := by rw [← hn]; exact h.1
  obtain ⟨er, her⟩ : ∃ er, (mapE es).2 = er := ⟨_, rfl⟩
  obtain ⟨w1, hw1⟩ : ∃ w1, w1 = w.alloc (.cells #[.slice A n c] 22) := ⟨_, rfl⟩
  have hc1 : Calm w w1 := by rw [hw1]; exact (Calm.refl w).alloc _
  have KC := check1_c es n c w.heap.size A er w1 (h.calm hc1) hcn hcc hsm hn her (by rw [hw1]; simp) (by rw [hw1]; simp)
  have HV0 : er ≠ 0 → Hid (domE es = ([], er)) := fun h0 => by
    show domE es = _
    unfold domE
    rw [her, if_pos h0]
  have HV1 : er = 0 → Hid (domE es = (es.filterMap domOf, 0) ∧ Mapping es) := fun h0 => by
    refine ⟨?_, (mapE_zero (her.trans h0)).1⟩
    show domE es = _
    unfold domE
    rw [her, if_neg (by simpa using h0)]
  have HE := Lib.hid h
  have HN := Lib.hid hn
  have HS := Lib.hid hsm
  have HW := Lib.hid hw1
  have HC := Lib.hid hc1
  have HKC := Lib.hid KC
  clear h hn hsm hw1 hc1 KC her
  go_enter Tryz.func17, Tryz.ntmps17
  by_cases h0 : er = 0
  · subst h0
    have HV := HV1 rfl
    clear HV0 HV1
    go_wp2_with fail
    rw [← HW.out]
    refine HKC.out.mono ?_
    rintro e w2 ⟨rfl, hc2⟩
    obtain ⟨G, hG⟩ : ∃ G, w2.heap.size = G := ⟨_, rfl⟩
    obtain ⟨w3, hw3⟩ : ∃ w3, w3 = w2.alloc (.cells #[.slice none 0 0, .bool false] 73) := ⟨_, rfl⟩
    have HCol : Hid (ColB w w3 G []) := by
      show ColB w w3 G []
      rw [hw3, ← hG]
      exact colB_new (HC.out.trans hc2)
    have HW3 := Lib.hid hw3
    have HG := Lib.hid hG
    clear hc2 hw3 hG
    go_wp2_with fail
    rw [← HW3.out, HG.out]
    go_loopw [19] (fun u wr => ∃ k : Nat, k ≤ n ∧ u = .int .i64 k ∧ Hid (ColB w wr G ((es.take k).filterMap domOf))) (fun u _ => n - (intOf u).toNat)
    case atStart => exact ⟨0, Nat.zero_le _, rfl, HCol.out⟩
    case round =>
      obtain ⟨k, hk, rfl, HCr⟩ := hrel
      obtain ⟨wq, rfl⟩ : ∃ wq, wq = wr := ⟨_, rfl⟩
      by_cases hlt : k < n
      · obtain ⟨b, o, z, rfl, hb, hz, c0, c1, c2, c3, c4, hua⟩ := (HE.out.calm HCr.out.calm).get (k := k) (by rw [HN.out]; exact hlt)
        have hmem := List.mem_of_getElem? hz
        have hgd := HV.out.2.good z.e hmem
        have hss := HS.out _ hmem
        have hu := hua.few hss hgd.2
        have htf : (es.take (k + 1)).filterMap domOf = (es.take k).filterMap domOf ++ (domOf z.e).toList := take_filterMap hz
        have htw : Sy.Twin z.e.left z.e.right := ruleErr_twin.1 hgd.1
        have hg64 : ¬ 64 < (redL z.e.left z.e.hs).length := by
          have h1 := redL_len z.e.left z.e.hs
          have h2 : z.e.reg.hs.length ≤ 64 := (gErr_zero hgd.2).2.2
          have e : z.e.reg.hs = z.e.hs := rfl
          rw [e] at h2
          omega
        have hgp : ∀ p ∈ z.e.hs, patErr p = 0 := (gErr_zero hgd.2).2.1
        obtain ⟨nl, hnl⟩ : ∃ nl, z.e.left.parts.length = nl := ⟨_, rfl⟩
        obtain ⟨nr, hnr⟩ : ∃ nr, z.e.right.parts.length = nr := ⟨_, rfl⟩
        obtain ⟨lr, hlr⟩ : ∃ lr, z.e.left.rest = lr := ⟨_, rfl⟩
        obtain ⟨rr, hrr⟩ : ∃ rr, z.e.right.rest = rr := ⟨_, rfl⟩
        obtain ⟨hn, hhn⟩ : ∃ hn, z.e.hs.length = hn := ⟨_, rfl⟩
        obtain ⟨m, hm⟩ : ∃ m, (redL z.e.left z.e.hs).length = m := ⟨_, rfl⟩
        obtain ⟨vz, hvz⟩ : ∃ vz, (leastLen z.e.left (redL z.e.left z.e.hs) == 0) = vz := ⟨_, rfl⟩
        rw [hnl] at c0
        rw [hlr] at c1
        rw [hnr] at c2
        rw [hrr] at c3
        rw [hhn] at c4
        have KR : Hid (∀ W, Calm wq W → Calls Tryz.prog 45 #[.agg #[.slice z.LA nl z.lc, .bool lr], .slice z.HA hn z.hc] W fun e w' => (∃ A2 c2 HA2 hc2, e = .returned (.tuple #[.agg #[.slice A2 nl c2, .bool lr, .slice HA2 m hc2], .bool (!vz), .int .i64 0]) ∧ NewS w' W.heap.size A2 c2 z.e.left.parts ∧ PatsN w' W.heap.size HA2 hc2 (redL z.e.left z.e.hs)) ∧ Calm W w') := fun W hW => by
          have huW := hu.calm hW
          have := mreduce_c z.e.left z.e.hs z.LA z.lc z.HA nl hn z.hc lr W huW.l huW.h hnl hlr hhn htw.lp hgp
          unfold RdEnd at this
          rw [hm] at this
          simp only [if_neg (hm ▸ hg64), hvz, hnl, hlr] at this
          exact this
        have HSz : Hid (z.e.left.parts.length ≤ 16384 ∧ ∀ l ∈ z.e.left.parts, l.length ≤ 16384) := ⟨hu.l.r.len, hu.l.r.each⟩
        have HDz : vz = true → Hid (domOf z.e = none) := fun h => domOf_zero hg64 (hvz.trans h)
        have HDo : vz = false → Hid (domOf z.e = some ⟨z.e.left, redL z.e.left z.e.hs⟩) := fun h => domOf_one hg64 (hvz.trans h)
        have HM := Lib.hid (And.intro hnl (And.intro hlr hm))
        have HTf := Lib.hid htf
        obtain ⟨B, hB⟩ : ∃ B, wq.heap.size = B := ⟨_, rfl⟩
        obtain ⟨wb, hwb⟩ : ∃ wb, wb = wq.alloc (.cells #[.slice z.LA nl z.lc, .bool lr, .slice z.RA nr z.rc, .bool rr, .slice z.HA hn z.hc] 51) := ⟨_, rfl⟩
        have hcb : Calm wq wb := by
          show Below _ _ _
          rw [hwb]
          exact (Calm.refl _).alloc _
        have HCb := Lib.hid hcb
        have HWb := Lib.hid hwb
        have hGq : Hid (G + 1 ≤ wb.heap.size) := by
          show G + 1 ≤ wb.heap.size
          have h1 := HCr.out.lt
          have h2 := hcb.size
          omega
        clear hz hu hua hnl hnr hlr hrr hhn hcb hwb hB hmem hgd hss htf htw hm hvz hg64 hgp
        go_wp2_with fail
        rw [← HWb.out]
        refine (KR.out wb HCb.out).mono ?_
        rintro e w3 ⟨⟨A2, c2', HA2, hc2', rfl, hS3, hP3⟩, hc3⟩
        clear c0 c1 c2 c3 c4
        obtain ⟨w4, hw4⟩ : ∃ w4, w4 = w3.alloc (.cells #[.slice A2 nl c2', .bool lr, .slice HA2 m hc2'] 43) := ⟨_, rfl⟩
        have hc34 : Calm w3 w4 := by
          show Below _ _ _
          rw [hw4]
          exact (Calm.refl _).alloc _
        have HC4 : Hid (Calm wq w4) := HCb.out.trans (Calm.trans hc3 hc34)
        have HW4 := Lib.hid hw4
        cases vz with
        | true =>
          have HD0 := HDz rfl
          clear hS3 hP3 hc3 hc34 hw4 HDz HDo
          go_wp2_with fail
          rw [← HW4.out]
          go_roundw
          case rel => exact ⟨k + 1, by omega, by go_num, by rw [HTf.out, HD0.out, Option.toList_none, List.append_nil]; exact HCr.out.to HC4.out⟩
          case measure => simp [intOf]; omega
        | false =>
          have HD1 := HDo rfl
          have KA : Hid (Calls Tryz.prog 46 #[.pointer (some ⟨G, 0, none⟩), .agg #[.slice A2 nl c2', .bool lr, .slice HA2 m hc2']] w4 fun e w' => e = .returned (.tuple #[]) ∧ ColB w w' G ((es.take k).filterMap domOf ++ [⟨z.e.left, redL z.e.left z.e.hs⟩]) ∧ FrB w4 w' wq.heap.size) :=
            addG_a w wq w4 G _ ⟨A2, c2', HA2, hc2', ⟨z.e.left, redL z.e.left z.e.hs⟩⟩ nl m lr HCr.out HC4.out ⟨⟨(hS3.calm hc34).mono hGq.out, HSz.out.1, HSz.out.2⟩, (hP3.calm hc34).mono hGq.out⟩ HM.out.1 HM.out.2.2 HM.out.2.1
          clear hS3 hP3 hc3 hc34 hw4 HDz HDo
          go_wp2_with fail
          rw [← HW4.out]
          refine KA.out.mono ?_
          rintro e w5 ⟨rfl, hcol, _⟩
          have HCol5 := Lib.hid hcol
          clear hcol
          go_wp2_with fail
          go_roundw
          case rel => exact ⟨k + 1, by omega, by go_num, by rw [HTf.out, HD1.out]; exact HCol5.out⟩
          case measure => simp [intOf]; omega
      · obtain rfl : k = n := by omega
        have HRs := Lib.hid (resultG_a w wq G _ HCr.out)
        have HFin : Hid ((es.take k).filterMap domOf = (domE es).1 ∧ (domE es).2 = 0 ∧ ¬ 32 < ((es.take k).filterMap domOf).length) := by
          have e1 : es.take k = es := by rw [List.take_of_length_le]; rw [HN.out]; omega
          rw [HV.out.1, e1]
          refine ⟨rfl, rfl, ?_⟩
          have := List.length_filterMap_le domOf es
          have := HV.out.2.few
          omega
        go_wp2_with fail
        refine HRs.out.mono ?_
        rintro e w6 ⟨hR, hc6⟩
        have hO := hR.out
        rw [if_neg HFin.out.2.2, if_neg HFin.out.2.2, HFin.out.1] at hO
        obtain ⟨A6, c6, rfl, r1, r2, r3⟩ := hO
        have HD : Hid (RegOut (domE es).1 (domE es).2 w.heap.size (.returned (.tuple #[.slice A6 (domE es).1.length c6, .int .i64 0])) w6) := by
          rw [HFin.out.2.1]
          exact ⟨A6, c6, rfl, r1, r2, r3⟩
        clear r1 r2 r3 hR
        generalize (domE es).1.length = L6 at HD ⊢
        go_wp2_with fail
        go_ret2
        exact ⟨HD.out, hc6⟩
  · have HV := HV0 h0
    have hb : (er != 0) = true := by simpa using h0
    clear HV0 HV1 h0
    go_wp2_with fail
    rw [← HW.out]
    refine HKC.out.mono ?_
    rintro e w2 ⟨rfl, hc2⟩
    go_wp2_with fail
    go_ret2
    exact ⟨by rw [HV.out]; exact regOut_err _ _ _, HC.out.trans hc2⟩
end Go.Proofs.YtmfjppaeddbdaaaGreatDoor
set_option linter.unusedVariables false
set_option linter.unusedSimpArgs false
namespace Go.Proofs.YtmfjppaeddbdaaaGreatDoor
open Go Go.RowKit Sy

theorem invOf_zero {x : Ent} {ks : List Pat} (h : rightHs x.rule x.hs = some ks) (h0 : leastLen x.right (redL x.right ks) = 0) : invOf x = none := by
  unfold invOf rightG
  rw [h]
  simp only [Option.map_some]
  rw [if_pos h0]
theorem invOf_one {x : Ent} {ks : List Pat} (h : rightHs x.rule x.hs = some ks) (h0 : leastLen x.right (redL x.right ks) ≠ 0) : invOf x = some ⟨x.right, x.left, redL x.right ks⟩ := by
  unfold invOf rightG
  rw [h]
  simp only [Option.map_some]
  rw [if_neg h0]
set_option maxHeartbeats 8000000 in
theorem rinv_c (es : List Ent) (n c : Nat) (A : Option Addr) (w : World) (h : EntsA w A es) (hcn : n ≤ c) (hcc : c ≤ 9223372036854775807) (hn : es.length = n) (hsm : ∀ x ∈ es, SmallE x) :
    Calls Tryz.prog 15 #[.slice A n c] w fun e w' => EntOutR (invE es).1 (invE es).2 e w' ∧ Calm w w' := by
  have hl : n ≤ 1048576 := by rw [← hn]; exact h.1
  obtain ⟨er, her⟩ : ∃ er, (mapE es).2 = er := ⟨_, rfl⟩
  obtain ⟨ix, hix⟩ : ∃ ix, (mapE es).1 = ix := ⟨_, rfl⟩
  have KC := rmchk_c es n c A w h hcn hcc hsm hn
  rw [her, hix] at KC
  have HV0 : er ≠ 0 → Hid (invE es = ([], er)) := fun h0 => by
    show invE es = _
    unfold invE
    rw [her, if_pos h0]
  have HV1 : er = 0 → Hid (invE es = (es.filterMap invOf, 0) ∧ Mapping es) := fun h0 => by
    refine ⟨?_, (mapE_zero (her.trans h0)).1⟩
    show invE es = _
    unfold invE
    rw [her, if_neg (by simpa using h0)]
  have HE := Lib.hid h
  have HN := Lib.hid hn
  have HS := Lib.hid hsm
  have HKC := Lib.hid KC
  clear h hn hsm KC her hix
  go_enter Tryz.func15, Tryz.ntmps15
  by_cases h0 : er = 0
  · subst h0
    have HV := HV1 rfl
    clear HV0 HV1
    go_wp2_with fail
    refine HKC.out.mono ?_
    rintro e w2 ⟨rfl, hc2⟩
    have HC2 := Lib.hid hc2
    clear hc2
    go_wp2_with fail
    go_loopw [6, 21] (fun v u wr => ∃ (k : Nat) (zs : List NewE), k ≤ n ∧ u = .int .i64 k ∧ Hid (RowV w2 wr v ((es.take k).filterMap invOf) zs)) (fun _ u _ => n - (intOf u).toNat)
    case atStart => exact ⟨0, [], Nat.zero_le _, rfl, RowV.nil (Calm.refl _)⟩
    case round =>
      obtain ⟨k, zs, hk, rfl, HI⟩ := hrel
      obtain ⟨wq, rfl⟩ : ∃ wq, wq = wr := ⟨_, rfl⟩
      have HCr : Hid (Calm w2 wq) := HI.out.own.calm
      by_cases hlt : k < n
      · obtain ⟨b, o, z, rfl, hb, hz, c0, c1, c2, c3, c4, hua⟩ := (HE.out.calm (HC2.out.trans HCr.out)).get (k := k) (by rw [HN.out]; exact hlt)
        have hmem := List.mem_of_getElem? hz
        have hgd := HV.out.2.good z.e hmem
        have hss := HS.out _ hmem
        have hu := hua.few hss hgd.2
        obtain ⟨g, hgr⟩ := HV.out.2.right z.e hmem
        obtain ⟨ks, hks, _⟩ := Option.map_eq_some_iff.1 hgr
        have hkl : ks.length ≤ 64 := by
          have h1 := (rightHs_good hks).2
          have h2 : z.e.reg.hs.length ≤ 64 := (gErr_zero hgd.2).2.2
          have e : z.e.reg.hs = z.e.hs := rfl
          rw [e] at h2
          omega
        have htf : (es.take (k + 1)).filterMap invOf = (es.take k).filterMap invOf ++ (invOf z.e).toList := take_filterMap hz
        have htw : Sy.Twin z.e.left z.e.right := ruleErr_twin.1 hgd.1
        have hsc : c ≤ 9223372036854775807 := hcc
        -- the sides lie where the argument lies
        have hw2 := (hua.few hss hgd.2)
        obtain ⟨nl, hnl⟩ : ∃ nl, z.e.left.parts.length = nl := ⟨_, rfl⟩
        obtain ⟨nr, hnr⟩ : ∃ nr, z.e.right.parts.length = nr := ⟨_, rfl⟩
        obtain ⟨lr, hlr⟩ : ∃ lr, z.e.left.rest = lr := ⟨_, rfl⟩
        obtain ⟨rr, hrr⟩ : ∃ rr, z.e.right.rest = rr := ⟨_, rfl⟩
        obtain ⟨hn, hhn⟩ : ∃ hn, z.e.hs.length = hn := ⟨_, rfl⟩
        obtain ⟨gs, hgs⟩ : ∃ gs, redL z.e.right ks = gs := ⟨_, rfl⟩
        obtain ⟨m, hm⟩ : ∃ m, gs.length = m := ⟨_, rfl⟩
        obtain ⟨L0, hL0⟩ : ∃ L0, leastLen z.e.right gs = L0 := ⟨_, rfl⟩
        have hml : m ≤ 64 := by
          have := redL_len z.e.right ks
          rw [hgs] at this
          omega
        rw [hnl] at c0
        rw [hlr] at c1
        rw [hnr] at c2
        rw [hrr] at c3
        rw [hhn] at c4
        -- in the world of the start the entry could be read too
        obtain ⟨b2, o2, z2, e2, hb2, hz2, d0, d1, d2, d3, d4, hua2⟩ := (HE.out.calm HC2.out).get (k := k) (by rw [HN.out]; exact hlt)
        obtain ⟨rfl, rfl⟩ : b = b2 ∧ o = o2 := by simpa using e2
        have d0' := HCr.out.at_ d0 hb2
        have d2' := HCr.out.at_ d2 hb2
        have eL : z.LA = z2.LA ∧ z.lc = z2.lc := by
          rw [c0] at d0'
          have h1 := Option.some.inj d0'
          simp only [Value.slice.injEq] at h1
          exact ⟨h1.1, h1.2.2⟩
        have eR : z.RA = z2.RA ∧ z.rc = z2.rc := by
          rw [c2] at d2'
          have h1 := Option.some.inj d2'
          simp only [Value.slice.injEq] at h1
          exact ⟨h1.1, h1.2.2⟩
        have eE : z2.e = z.e := by rw [hz] at hz2; exact (Option.some.inj hz2).symm
        have hu2 := hua2.few (by rw [eE]; exact hss) (by rw [eE]; exact hgd.2)
        have HOl : Hid (PatA w2 z.LA z.lc z.e.left) := by
          have := hu2.l
          rw [eE, ← eL.1, ← eL.2] at this
          exact this
        have HOr : Hid (PatA w2 z.RA z.rc z.e.right) := by
          have := hu2.r
          rw [eE, ← eR.1, ← eR.2] at this
          exact this
        have KR : Hid (∀ W, Calm wq W → Calls Tryz.prog 37 #[entV z.LA z.RA z.HA nl z.lc nr z.rc hn z.hc lr rr] W fun e w' => (∃ KA kc, e = .returned (.tuple #[.agg #[.slice z.RA nr z.rc, .bool rr, .slice KA m kc], .bool true]) ∧ PatsN w' W.heap.size KA kc gs) ∧ Calm W w') := fun W hW => by
          have := rright_c z nl nr hn lr rr z.HA W (hu.calm hW) hss hgd.1 hgd.2 hnl hnr hhn hlr hrr rfl
          unfold RRightEnd at this
          rw [hks] at this
          simp only [hnr, hrr, hgs, hm] at this
          exact this
        have KLn : Hid (∀ W KA kc, Calm wq W → PatsR W KA gs → Calls Tryz.prog 42 #[.agg #[.slice z.RA nr z.rc, .bool rr, .slice KA m kc]] W fun e w' => e = .returned (.int .i64 L0) ∧ Calm W w') := fun W KA kc hW hP =>
          rlenp_v z.e.right gs L0 nr m rr z.RA z.rc KA kc W (hu.calm hW).r.r hP htw.rp (fun p hp => by rw [← hgs] at hp; exact redL_good p hp) hL0 hnr hm hrr
        have HIz : L0 = 0 → Hid (invOf z.e = none) := fun h => invOf_zero hks (by rw [hgs, hL0, h])
        have HIo : L0 ≠ 0 → Hid (invOf z.e = some ⟨z.e.right, z.e.left, gs⟩) := fun h => by
          have := invOf_one hks (by rw [hgs, hL0]; exact h)
          rw [hgs] at this
          exact this
        have HM := Lib.hid (And.intro hnl (And.intro hnr (And.intro hlr (And.intro hrr hm))))
        have HTf := Lib.hid htf
        have HMl := Lib.hid hml
        have hzl : zs.length ≤ n := by
          rw [HI.out.len]
          have := List.length_filterMap_le invOf (es.take k)
          rw [List.length_take] at this
          omega
        obtain ⟨B, hB⟩ : ∃ B, wq.heap.size = B := ⟨_, rfl⟩
        obtain ⟨wb, hwb⟩ : ∃ wb, wb = wq.alloc (.cells #[.slice z.LA nl z.lc, .bool lr, .slice z.RA nr z.rc, .bool rr, .slice z.HA hn z.hc] 51) := ⟨_, rfl⟩
        have hf : FiveB wb B (.slice z.LA nl z.lc) (.bool lr) (.slice z.RA nr z.rc) (.bool rr) (.slice z.HA hn z.hc) := by
          rw [hwb, ← hB]
          exact FiveB.new wq _ _ _ _ _ _
        have hcb : Calm wq wb := by
          show Below _ _ _
          rw [hwb]
          exact (Calm.refl _).alloc _
        have HF := Lib.hid hf
        have HCb := Lib.hid hcb
        have HWb := Lib.hid hwb
        have HBB := Lib.hid hB
        clear hz hu hua hw2 hnl hnr hlr hrr hhn hf hcb hwb hB hmem hgd hss hgr hks hkl htf htw hgs hm hL0 hml hz2 d0 d1 d2 d3 d4 d0' d2' e2 eL eR eE hua2 hu2
        go_wp2_with fail
        rw [← HWb.out]
        refine (KR.out wb HCb.out).mono ?_
        rintro e w3 ⟨⟨KA, kc, rfl, hP⟩, hc3⟩
        rw [HBB.out]
        clear c0 c1 c2 c3 c4
        obtain ⟨w4, hw4⟩ : ∃ w4, w4 = w3.alloc (.cells #[.slice z.RA nr z.rc, .bool rr, .slice KA m kc] 43) := ⟨_, rfl⟩
        obtain ⟨D, hD⟩ : ∃ D, w3.heap.size = D := ⟨_, rfl⟩
        have hc34 : Calm w3 w4 := by
          show Below _ _ _
          rw [hw4]
          exact (Calm.refl _).alloc _
        have hg4 : RgB w4 D (.slice z.RA nr z.rc) (.bool rr) (.slice KA m kc) := by rw [hw4, ← hD]; exact RgB.new w3 _ _ _
        have HG4 := Lib.hid hg4
        have HP4 := Lib.hid ((hP.calm hc34).mono HCb.out.size)
        have HC4 : Hid (Calm wq w4) := HCb.out.trans (Calm.trans hc3 hc34)
        have HF4 : Hid (FiveB w4 B (.slice z.LA nl z.lc) (.bool lr) (.slice z.RA nr z.rc) (.bool rr) (.slice z.HA hn z.hc)) := HF.out.calm (Calm.trans hc3 hc34)
        have HW4 := Lib.hid hw4
        have HDs := Lib.hid hD
        clear hP hc3 hc34 hw4 hD hg4
        go_wp2_with fail
        rw [← HW4.out, HDs.out]
        refine (KLn.out w4 KA kc HC4.out (HP4.out.reads (by have := HMl.out; have := HM.out.2.2.2.2; omega))).mono ?_
        rintro e w5 ⟨rfl, hc5⟩
        have HC5 : Hid (Calm wq w5) := HC4.out.trans hc5
        by_cases hz0 : L0 = 0
        · subst hz0
          have HD0 := HIz rfl
          clear hc5
          go_wp2_with fail
          go_roundw
          case rel => exact ⟨k + 1, zs, by omega, by go_num, by rw [HTf.out, HD0.out, Option.toList_none, List.append_nil]; exact HI.out.to HC5.out⟩
          case measure => simp [intOf]; omega
        · have HD1 := HIo hz0
          have hzp : (0 : Int) < (L0 : Int) := by omega
          have hf5 := HF4.out.calm hc5
          have hg5 := HG4.out.calm hc5
          have c0 := hf5.c0
          have c1 := hf5.c1
          have c2 := hf5.c2
          have c3 := hf5.c3
          have g2 := hg5.c2
          have HV5 : Hid (EntV w2 w5 ⟨z.RA, z.rc, z.LA, z.lc, KA, kc, ⟨z.e.right, z.e.left, gs⟩⟩) := ⟨.inl HOr.out, .inl HOl.out, (HP4.out.calm hc5).mono HCr.out.size, by show gs.length ≤ _; have := HMl.out; have := HM.out.2.2.2.2; omega⟩
          clear hc5 hf5 hg5 hz0
          go_wp2_with (at_builtin; refine wpList_append_xs (enc := encE) (K := 5) (T := 51) Tryz.underlying22 info_ent rfl (by decide) (by decide) encE_len encE_one rfl (.tmp 33) (.tmp 41) rfl w2 u6 zs [⟨z.RA, z.rc, z.LA, z.lc, KA, kc, ⟨z.e.right, z.e.left, gs⟩⟩] rfl (HI.out.own.to (HC5.out.alloc _)) _ 1 1 rfl rfl (read_newE ⟨z.RA, z.rc, z.LA, z.lc, KA, kc, ⟨z.e.right, z.e.left, gs⟩⟩ rfl HM.out.2.1 HM.out.2.2.2.1 HM.out.1 HM.out.2.2.1 HM.out.2.2.2.2) (by omega) ?_; intro v9 w9 hown9 hg9)
          have HRel : Hid (RowV w2 w9 v9 ((es.take k).filterMap invOf ++ [⟨z.e.right, z.e.left, gs⟩]) (zs ++ [⟨z.RA, z.rc, z.LA, z.lc, KA, kc, ⟨z.e.right, z.e.left, gs⟩⟩])) := HI.out.add (HC5.out.alloc _) (HV5.out.calm ((Calm.refl _).alloc _)) hg9 hown9
          go_roundw
          case rel => exact ⟨k + 1, _, by omega, by go_num, by rw [HTf.out, HD1.out]; exact HRel.out⟩
          case measure => simp [intOf]; omega
      · obtain rfl : k = n := by omega
        have HFin : Hid (invE es = ((es.take k).filterMap invOf, 0)) := by
          show invE es = _
          rw [HV.out.1, List.take_of_length_le (by rw [HN.out]; omega)]
        obtain ⟨A9, c9, rfl, r1, r2, r3⟩ := HI.out.reads
        have HR := Lib.hid (And.intro r1 (And.intro r2 r3))
        obtain ⟨L9, hL9⟩ : ∃ L9, ((es.take k).filterMap invOf).length = L9 := ⟨_, rfl⟩
        have HL9 := Lib.hid hL9
        rw [hL9]
        clear r1 r2 r3 hL9
        go_wp2_with fail
        go_ret2
        exact ⟨by rw [HFin.out]; exact ⟨A9, c9, by rw [HL9.out]; rfl, HR.out.1, HR.out.2⟩, HC2.out.trans HCr.out⟩
  · have HV := HV0 h0
    have hb : (er != 0) = true := by simpa using h0
    clear HV0 HV1 h0
    go_wp2_with fail
    refine HKC.out.mono ?_
    rintro e w2 ⟨rfl, hc2⟩
    go_wp2_with fail
    go_ret2
    exact ⟨by rw [HV.out]; exact entOutR_err _ _, hc2⟩
end Go.Proofs.YtmfjppaeddbdaaaGreatDoor
set_option linter.unusedVariables false
set_option linter.unusedSimpArgs false
namespace Go.Proofs.YtmfjppaeddbdaaaGreatDoor
open Go Go.RowKit Sy

end Go.Proofs.YtmfjppaeddbdaaaGreatDoor
set_option linter.unusedVariables false
set_option linter.unusedSimpArgs false
namespace Go.Proofs.YtmfjppaeddbdaaaGreatDoor
open Go Go.RowKit Sy

end Go.Proofs.YtmfjppaeddbdaaaGreatDoor
set_option linter.unusedVariables false
set_option linter.unusedSimpArgs false
namespace Go.Proofs.YtmfjppaeddbdaaaGreatDoor
open Go Go.RowKit Sy

set_option maxHeartbeats 8000000 in
theorem rdom_c (es : List Ent) (n c : Nat) (A : Option Addr) (w : World) (h : EntsA w A es) (hcn : n ≤ c) (hcc : c ≤ 9223372036854775807) (hn : es.length = n) (hsm : ∀ x ∈ es, SmallE x) :
    Calls Tryz.prog 18 #[.slice A n c] w fun e w' => RegOutR (domE es).1 (domE es).2 e w' ∧ Calm w w' := by
  have hl : n ≤ 1048576 := by rw [← hn]; exact h.1
  obtain ⟨er, her⟩ : ∃ er, (mapE es).2 = er := ⟨_, rfl⟩
  obtain ⟨ix, hix⟩ : ∃ ix, (mapE es).1 = ix := ⟨_, rfl⟩
  have KC := rmchk_c es n c A w h hcn hcc hsm hn
  rw [her, hix] at KC
  have HV0 : er ≠ 0 → Hid (domE es = ([], er)) := fun h0 => by
    show domE es = _
    unfold domE
    rw [her, if_pos h0]
  have HV1 : er = 0 → Hid (domE es = (es.filterMap domOf, 0) ∧ Mapping es) := fun h0 => by
    refine ⟨?_, (mapE_zero (her.trans h0)).1⟩
    show domE es = _
    unfold domE
    rw [her, if_neg (by simpa using h0)]
  have HE := Lib.hid h
  have HN := Lib.hid hn
  have HS := Lib.hid hsm
  have HKC := Lib.hid KC
  clear h hn hsm KC her hix
  go_enter Tryz.func18, Tryz.ntmps18
  by_cases h0 : er = 0
  · subst h0
    have HV := HV1 rfl
    clear HV0 HV1
    go_wp2_with fail
    refine HKC.out.mono ?_
    rintro e w2 ⟨rfl, hc2⟩
    have HC2 := Lib.hid hc2
    clear hc2
    go_wp2_with fail
    go_loopw [6, 20] (fun v u wr => ∃ (k : Nat) (zs : List NewG), k ≤ n ∧ u = .int .i64 k ∧ Hid (RowW w2 wr v ((es.take k).filterMap domOf) zs)) (fun _ u _ => n - (intOf u).toNat)
    case atStart => exact ⟨0, [], Nat.zero_le _, rfl, RowW.nil (Calm.refl _)⟩
    case round =>
      obtain ⟨k, zs, hk, rfl, HI⟩ := hrel
      obtain ⟨wq, rfl⟩ : ∃ wq, wq = wr := ⟨_, rfl⟩
      have HCr : Hid (Calm w2 wq) := HI.out.own.calm
      by_cases hlt : k < n
      · obtain ⟨b, o, z, rfl, hb2, hz, c0, c1, c2, c3, c4, hua⟩ := (HE.out.calm HC2.out).get (k := k) (by rw [HN.out]; exact hlt)
        have c0 := HCr.out.at_ c0 hb2
        have c1 := HCr.out.at_ c1 hb2
        have c2 := HCr.out.at_ c2 hb2
        have c3 := HCr.out.at_ c3 hb2
        have c4 := HCr.out.at_ c4 hb2
        have hb := Nat.lt_of_lt_of_le hb2 HCr.out.size
        have hmem := List.mem_of_getElem? hz
        have hgd := HV.out.2.good z.e hmem
        have hss := HS.out _ hmem
        have hu2 := hua.few hss hgd.2
        have htf : (es.take (k + 1)).filterMap domOf = (es.take k).filterMap domOf ++ (domOf z.e).toList := take_filterMap hz
        have htw : Sy.Twin z.e.left z.e.right := ruleErr_twin.1 hgd.1
        have hgp : ∀ p ∈ z.e.hs, patErr p = 0 := (gErr_zero hgd.2).2.1
        obtain ⟨nl, hnl⟩ : ∃ nl, z.e.left.parts.length = nl := ⟨_, rfl⟩
        obtain ⟨nr, hnr⟩ : ∃ nr, z.e.right.parts.length = nr := ⟨_, rfl⟩
        obtain ⟨lr, hlr⟩ : ∃ lr, z.e.left.rest = lr := ⟨_, rfl⟩
        obtain ⟨rr, hrr⟩ : ∃ rr, z.e.right.rest = rr := ⟨_, rfl⟩
        obtain ⟨hn, hhn⟩ : ∃ hn, z.e.hs.length = hn := ⟨_, rfl⟩
        obtain ⟨gs, hgs⟩ : ∃ gs, redL z.e.left z.e.hs = gs := ⟨_, rfl⟩
        obtain ⟨m, hm⟩ : ∃ m, gs.length = m := ⟨_, rfl⟩
        obtain ⟨L0, hL0⟩ : ∃ L0, leastLen z.e.left gs = L0 := ⟨_, rfl⟩
        have hml : m ≤ 64 := by
          have h1 := redL_len z.e.left z.e.hs
          have h2 : z.e.reg.hs.length ≤ 64 := (gErr_zero hgd.2).2.2
          have e : z.e.reg.hs = z.e.hs := rfl
          rw [e] at h2
          rw [hgs] at h1
          omega
        rw [hnl] at c0
        rw [hlr] at c1
        rw [hnr] at c2
        rw [hrr] at c3
        rw [hhn] at c4
        have KS : Hid (∀ W, Calm w2 W → Calls Tryz.prog 48 #[.agg #[.slice z.LA nl z.lc, .bool lr], .slice z.HA hn z.hc] W fun e w' => (∃ KA kc, e = .returned (.agg #[.slice z.LA nl z.lc, .bool lr, .slice KA m kc]) ∧ PatsN w' W.heap.size KA kc gs) ∧ Calm W w') := fun W hW => by
          have h2 := hu2.calm hW
          have := rsimp_c z.e.left z.e.hs z.LA z.lc z.HA hn z.hc W h2.l h2.h hhn htw.lp hgp
          unfold RSEnd at this
          rw [hnl, hlr, hgs, hm] at this
          exact this
        have KLn : Hid (∀ W KA kc, Calm w2 W → PatsR W KA gs → Calls Tryz.prog 42 #[.agg #[.slice z.LA nl z.lc, .bool lr, .slice KA m kc]] W fun e w' => e = .returned (.int .i64 L0) ∧ Calm W w') := fun W KA kc hW hP =>
          rlenp_v z.e.left gs L0 nl m lr z.LA z.lc KA kc W (hu2.calm hW).l.r hP htw.lp (fun p hp => by rw [← hgs] at hp; exact redL_good p hp) hL0 hnl hm hlr
        have HIz : L0 = 0 → Hid (domOf z.e = none) := fun h => domOf_zero (by rw [hgs, hm]; omega) (by rw [hgs, hL0, h]; rfl)
        have HIo : L0 ≠ 0 → Hid (domOf z.e = some ⟨z.e.left, gs⟩) := fun h => by
          have := domOf_one (x := z.e) (by rw [hgs, hm]; omega) (by rw [hgs, hL0]; simpa using h)
          rw [hgs] at this
          exact this
        have HOl : Hid (PatA w2 z.LA z.lc z.e.left) := hu2.l
        have HM := Lib.hid (And.intro hnl (And.intro hlr hm))
        have HTf := Lib.hid htf
        have HMl := Lib.hid hml
        have hzl : zs.length ≤ n := by
          rw [HI.out.len]
          have := List.length_filterMap_le domOf (es.take k)
          rw [List.length_take] at this
          omega
        obtain ⟨B, hB⟩ : ∃ B, wq.heap.size = B := ⟨_, rfl⟩
        obtain ⟨wb, hwb⟩ : ∃ wb, wb = wq.alloc (.cells #[.slice z.LA nl z.lc, .bool lr, .slice z.RA nr z.rc, .bool rr, .slice z.HA hn z.hc] 51) := ⟨_, rfl⟩
        have hcb : Calm wq wb := by
          show Below _ _ _
          rw [hwb]
          exact (Calm.refl _).alloc _
        have HCb := Lib.hid hcb
        have HWb := Lib.hid hwb
        have HBB := Lib.hid hB
        clear hz hua hnl hnr hlr hrr hhn hcb hwb hB hmem hgd hss htf htw hgs hm hL0 hml hu2 hgp hb2
        go_wp2_with fail
        rw [← HWb.out]
        refine (KS.out wb (HCr.out.trans HCb.out)).mono ?_
        rintro e w3 ⟨⟨KA, kc, rfl, hP⟩, hc3⟩
        clear c0 c1 c2 c3 c4
        obtain ⟨w4, hw4⟩ : ∃ w4, w4 = w3.alloc (.cells #[.slice z.LA nl z.lc, .bool lr, .slice KA m kc] 43) := ⟨_, rfl⟩
        obtain ⟨D, hD⟩ : ∃ D, w3.heap.size = D := ⟨_, rfl⟩
        have hc34 : Calm w3 w4 := by
          show Below _ _ _
          rw [hw4]
          exact (Calm.refl _).alloc _
        have hg4 : RgB w4 D (.slice z.LA nl z.lc) (.bool lr) (.slice KA m kc) := by rw [hw4, ← hD]; exact RgB.new w3 _ _ _
        have HG4 := Lib.hid hg4
        have HP4 := Lib.hid ((hP.calm hc34).mono HCb.out.size)
        have HC4 : Hid (Calm wq w4) := HCb.out.trans (Calm.trans hc3 hc34)
        have HW4 := Lib.hid hw4
        have HDs := Lib.hid hD
        clear hP hc3 hc34 hw4 hD hg4
        go_wp2_with fail
        rw [← HW4.out, HDs.out]
        refine (KLn.out w4 KA kc (HCr.out.trans HC4.out) (HP4.out.reads (by have := HMl.out; have := HM.out.2.2; omega))).mono ?_
        rintro e w5 ⟨rfl, hc5⟩
        have HC5 : Hid (Calm wq w5) := HC4.out.trans hc5
        by_cases hz0 : L0 = 0
        · subst hz0
          have HD0 := HIz rfl
          clear hc5
          go_wp2_with fail
          go_roundw
          case rel => exact ⟨k + 1, zs, by omega, by go_num, by rw [HTf.out, HD0.out, Option.toList_none, List.append_nil]; exact HI.out.to HC5.out⟩
          case measure => simp [intOf]; omega
        · have HD1 := HIo hz0
          have hzp : (0 : Int) < (L0 : Int) := by omega
          have hg5 := HG4.out.calm hc5
          have g0 := hg5.c0
          have g1 := hg5.c1
          have g2 := hg5.c2
          have HV5 : Hid (GrV w2 w5 ⟨z.LA, z.lc, KA, kc, ⟨z.e.left, gs⟩⟩) := ⟨.inl HOl.out, (HP4.out.calm hc5).mono HCr.out.size, by show gs.length ≤ _; have := HMl.out; have := HM.out.2.2; omega⟩
          clear hc5 hg5 hz0
          go_wp2_with (at_builtin; refine wpList_append_xs (enc := encG) (K := 3) (T := 43) Tryz.underlying31 info_reg rfl (by decide) (by decide) encG_len encG_one rfl (.tmp 32) (.tmp 34) rfl w2 u6 zs [⟨z.LA, z.lc, KA, kc, ⟨z.e.left, gs⟩⟩] rfl (HI.out.own.to (HC5.out.alloc _)) _ 1 1 rfl rfl (read_newN ⟨z.LA, z.lc, KA, kc, ⟨z.e.left, gs⟩⟩ HM.out.1 HM.out.2.1 HM.out.2.2 rfl) (by omega) ?_; intro v9 w9 hown9 hg9)
          have HRel : Hid (RowW w2 w9 v9 ((es.take k).filterMap domOf ++ [⟨z.e.left, gs⟩]) (zs ++ [⟨z.LA, z.lc, KA, kc, ⟨z.e.left, gs⟩⟩])) := HI.out.add (HC5.out.alloc _) (HV5.out.calm ((Calm.refl _).alloc _)) hg9 hown9
          go_roundw
          case rel => exact ⟨k + 1, _, by omega, by go_num, by rw [HTf.out, HD1.out]; exact HRel.out⟩
          case measure => simp [intOf]; omega
      · obtain rfl : k = n := by omega
        have HFin : Hid (domE es = ((es.take k).filterMap domOf, 0)) := by
          show domE es = _
          rw [HV.out.1, List.take_of_length_le (by rw [HN.out]; omega)]
        obtain ⟨A9, c9, rfl, r1, r2, r3⟩ := HI.out.reads
        have HR := Lib.hid (And.intro r1 (And.intro r2 r3))
        obtain ⟨L9, hL9⟩ : ∃ L9, ((es.take k).filterMap domOf).length = L9 := ⟨_, rfl⟩
        have HL9 := Lib.hid hL9
        rw [hL9]
        clear r1 r2 r3 hL9
        go_wp2_with fail
        go_ret2
        exact ⟨by rw [HFin.out]; exact ⟨A9, c9, by rw [HL9.out]; rfl, HR.out.1, HR.out.2⟩, HC2.out.trans HCr.out⟩
  · have HV := HV0 h0
    have hb : (er != 0) = true := by simpa using h0
    clear HV0 HV1 h0
    go_wp2_with fail
    refine HKC.out.mono ?_
    rintro e w2 ⟨rfl, hc2⟩
    go_wp2_with fail
    go_ret2
    exact ⟨by rw [HV.out]; exact regOutR_err _ _, hc2⟩
theorem EntsA.toR {w : World} {A : Option Addr} {es : List Ent} (h : EntsA w A es) (hsm : ∀ x ∈ es, SmallE x) (hg : ∀ x ∈ es, ruleErr x.rule = 0 ∧ gErr x.reg = 0) : EntsR w A es := by
  obtain ⟨_, zs, h1, h2, h3⟩ := h
  refine ⟨zs, h1, h2, fun z hz => ?_⟩
  have hm : z.e ∈ es := by rw [← h1]; exact List.mem_map.2 ⟨z, hz, rfl⟩
  exact (h3 z hz).few (hsm _ hm) (hg _ hm).2
end Go.Proofs.YtmfjppaeddbdaaaGreatDoor
set_option linter.unusedVariables false
set_option linter.unusedSimpArgs false
namespace Go.Proofs.YtmfjppaeddbdaaaGreatDoor
open Go Go.RowKit Sy

def exM : List Ent := [⟨⟨[[100]], true⟩, ⟨[[99]], true⟩, [⟨[[100], [42, 46, 116, 109, 112]], false⟩]⟩]
theorem exM_inv : invE exM = ([⟨⟨[[99]], true⟩, ⟨[[100]], true⟩, [⟨[[99], [42, 46, 116, 109, 112]], false⟩]⟩], 0) := by decide +kernel
theorem exM_ok : (mapE exM).2 = 0 := by decide +kernel
theorem exM_bwd : bwS exM [47, 47, 99, 47, 97] = some [47, 47, 100, 47, 97] := by decide +kernel
theorem exM_small : ∀ x ∈ exM, SmallE x := fun x hx => by
  rw [exM, List.mem_singleton] at hx
  subst hx
  exact ⟨by decide, by decide, by decide, by decide, by decide⟩
theorem newm_at {v w' : World} {cs : Array Value} {t : TypeId} {n k : Nat} {x : Value} (hc : Calm (v.alloc (.cells cs t)) w') (hs : v.heap.size = n) (h : cs[k]? = some x) : w'.cell? ⟨n, k, none⟩ = some x := by
  subst hs
  refine hc.at_ ?_ (by simp)
  rw [cell_of_row _ v.heap.size k _ _ _ (heap_alloc_new v _)]
  exact h
def exMW (w : World) : World :=
  ((((((w.alloc (Obj.cells #[Value.string { data := #[100] }] 9)).alloc (Obj.cells #[Value.string { data := #[99] }] 9)).alloc (Obj.cells #[Value.slice (some { block := w.heap.size, off := 0 }) 1 1, Value.bool true] 40)).alloc
    (Obj.cells #[Value.slice (some { block := w.heap.size + 1, off := 0 }) 1 1, Value.bool true] 40)).alloc (Obj.cells #[Value.string { data := #[100] }, Value.string { data := #[42, 46, 116, 109, 112] }] 9)).alloc
    (Obj.cells #[Value.slice (some { block := w.heap.size + 1 + 1 + 1 + 1, off := 0 }) 2 2, Value.bool false] 40)).alloc
    (Obj.cells #[Value.slice (some { block := w.heap.size, off := 0 }) 1 1, Value.bool true, Value.slice (some { block := w.heap.size + 1, off := 0 }) 1 1, Value.bool true, Value.slice (some { block := w.heap.size + 1 + 1 + 1 + 1 + 1, off := 0 }) 1 1] 51)
theorem exMW_calm (w : World) : Calm w (exMW w) := (((((((Calm.refl w).alloc _).alloc _).alloc _).alloc _).alloc _).alloc _).alloc _
theorem exMW_size (w : World) : (exMW w).heap.size = w.heap.size + 7 := by simp [exMW]
theorem exMW_ents (w : World) : EntsA (exMW w) (some ⟨w.heap.size + 1 + 1 + 1 + 1 + 1 + 1, 0, none⟩) exM := by
  refine ⟨by decide, [⟨some ⟨w.heap.size, 0, none⟩, 1, some ⟨w.heap.size + 1, 0, none⟩, 1, some ⟨w.heap.size + 1 + 1 + 1 + 1 + 1, 0, none⟩, 1, ⟨⟨[[100]], true⟩, ⟨[[99]], true⟩, [⟨[[100], [42, 46, 116, 109, 112]], false⟩]⟩⟩], rfl, fun _ => ⟨_, 0, rfl, by rw [exMW_size]; omega, fun k x hk i u hu => ?_⟩, fun z hz => ?_⟩
  · match k, hk with
    | 0, hk =>
      obtain rfl := Option.some.inj hk
      have key : ∀ i u, (#[Value.slice (some { block := w.heap.size, off := 0 }) 1 1, Value.bool true, Value.slice (some { block := w.heap.size + 1, off := 0 }) 1 1, Value.bool true, Value.slice (some { block := w.heap.size + 1 + 1 + 1 + 1 + 1, off := 0 }) 1 1] : Array Value)[i]? = some u → (exMW w).cell? ⟨w.heap.size + 1 + 1 + 1 + 1 + 1 + 1, i, none⟩ = some u := fun i u h =>
        newm_at (v := (((((w.alloc _).alloc _).alloc _).alloc _).alloc _).alloc _) (Calm.refl _) (by simp) h
      rw [show 0 + 0 * 5 + i = i by omega]
      exact key i u (by simpa [encE] using hu)
  · rw [List.mem_singleton] at hz
    subst hz
    refine ⟨⟨(by show 1 ≤ 1048576; decide), (by show ∀ l ∈ ([[100]] : List Str), l.length ≤ 1048576; decide), fun _ => ⟨_, 0, rfl, by rw [exMW_size]; omega, fun k l hl => ?_⟩⟩, ⟨(by show 1 ≤ 1048576; decide), (by show ∀ l ∈ ([[99]] : List Str), l.length ≤ 1048576; decide), fun _ => ⟨_, 0, rfl, by rw [exMW_size]; omega, fun k l hl => ?_⟩⟩, ⟨(by show 1 ≤ 1048576; decide), fun _ => ⟨_, 0, rfl, by rw [exMW_size]; omega, fun k p hp => ?_⟩⟩, Nat.le_refl 1, Nat.le_refl 1, Nat.le_refl 1, (by show 1 ≤ 9223372036854775807; omega), (by show 1 ≤ 9223372036854775807; omega), (by show 1 ≤ 9223372036854775807; omega)⟩
    · rw [Nat.zero_add]
      refine newm_at (v := w) (((((((Calm.refl _).alloc _).alloc _).alloc _).alloc _).alloc _).alloc _) rfl ?_
      match k, hl with
      | 0, hl => cases hl; rfl
    · rw [Nat.zero_add]
      refine newm_at (v := w.alloc _) ((((((Calm.refl _).alloc _).alloc _).alloc _).alloc _).alloc _) (by simp) ?_
      match k, hl with
      | 0, hl => cases hl; rfl
    · match k, hp with
      | 0, hp =>
        obtain rfl := Option.some.inj hp
        refine ⟨some ⟨w.heap.size + 1 + 1 + 1 + 1, 0, none⟩, 2, ?_, ?_, Nat.le_refl 2, (by show 2 ≤ 9223372036854775807; omega), ⟨by decide, by decide, fun _ => ⟨_, 0, rfl, by rw [exMW_size]; omega, fun k l hl => ?_⟩⟩⟩
        · exact newm_at (v := ((((w.alloc _).alloc _).alloc _).alloc _).alloc _) ((Calm.refl _).alloc _) (by simp) rfl
        · exact newm_at (v := ((((w.alloc _).alloc _).alloc _).alloc _).alloc _) ((Calm.refl _).alloc _) (by simp) rfl
        · rw [Nat.zero_add]
          refine newm_at (v := (((w.alloc _).alloc _).alloc _).alloc _) (((Calm.refl _).alloc _).alloc _) (by simp) ?_
          match k, hl with
          | 0, hl => cases hl; rfl
          | 1, hl => cases hl; rfl
structure ExI (w : World) (b o : Nat) (b2 o2 c1 c2 b3 o3 : Nat) : Prop where
  h : w.cell? ⟨b, o + 4, none⟩ = some (.slice (some ⟨b2, o2, none⟩) 1 c1)
  p : w.cell? ⟨b2, o2, none⟩ = some (.slice (some ⟨b3, o3, none⟩) 2 c2)
  s : w.cell? ⟨b3, o3, none⟩ = some (.string ⟨#[99]⟩)
  lt : b < w.heap.size ∧ b2 < w.heap.size ∧ b3 < w.heap.size
theorem ExI.calm {w w' : World} {b o b2 o2 c1 c2 b3 o3 : Nat} (h : ExI w b o b2 o2 c1 c2 b3 o3) (hc : Calm w w') : ExI w' b o b2 o2 c1 c2 b3 o3 :=
  ⟨hc.at_ h.h h.lt.1, hc.at_ h.p h.lt.2.1, hc.at_ h.s h.lt.2.2, Nat.lt_of_lt_of_le h.lt.1 hc.size, Nat.lt_of_lt_of_le h.lt.2.1 hc.size, Nat.lt_of_lt_of_le h.lt.2.2 hc.size⟩
theorem exI_of {w' : World} {B : Nat} {e : Ending} (h : EntOut (invE exM).1 (invE exM).2 B e w') : ∃ b o c b2 o2 c1 c2 b3 o3, e = .returned (.tuple #[.slice (some ⟨b, o, none⟩) 1 c, .int .i64 0]) ∧ 1 ≤ c ∧ ExI w' b o b2 o2 c1 c2 b3 o3 := by
  rw [exM_inv] at h
  obtain ⟨A, c, rfl, h1, h2, zs, h3, h4, h5⟩ := h
  have hE : EntsR w' A [⟨⟨[[99]], true⟩, ⟨[[100]], true⟩, [⟨[[99], [42, 46, 116, 109, 112]], false⟩]⟩] := ⟨zs, h3, h4, fun z hz => (h5 z hz).u⟩
  obtain ⟨b, o, z, rfl, hb, hz, _, _, _, _, c4, hu⟩ := hE.get (k := 0) (by decide)
  have hze : z.e = ⟨⟨[[99]], true⟩, ⟨[[100]], true⟩, [⟨[[99], [42, 46, 116, 109, 112]], false⟩]⟩ := (Option.some.inj hz).symm
  have hh := hu.h
  rw [hze] at hh c4
  obtain ⟨b2, o2, p, Ak, ck, hA2, hb2, hp, d0, _, _, _, hs⟩ := hh.get (k := 0) (by decide)
  have hpe : p = ⟨[[99], [42, 46, 116, 109, 112]], false⟩ := (Option.some.inj hp).symm
  subst hpe
  obtain ⟨b3, o3, l, hA3, hb3, hl, _, e0⟩ := hs.get (k := 0) (by decide)
  have hle : l = [99] := (Option.some.inj hl).symm
  subst hle
  refine ⟨b, o, c, b2, o2, z.hc, ck, b3, o3, rfl, h1, ⟨?_, ?_, ?_, hb, hb2, hb3⟩⟩
  · rw [hA2] at c4
    simpa using c4
  · rw [hA3] at d0
    simpa using d0
  · have : w'.cell? ⟨b3, o3, none⟩ = some (.string (bs [99])) := by simpa using e0
    exact this
set_option maxRecDepth 100000 in
set_option maxHeartbeats 4000000 in
theorem awakeM_c (w : World) (hM : MaxL w) : Calls Tryz.prog 11 #[] w fun e w' => e = .returned (.bool true) ∧ Calm w w' := by
  have KI : Hid (Calls Tryz.prog 14 #[.slice (some ⟨w.heap.size + 1 + 1 + 1 + 1 + 1 + 1, 0, none⟩) 1 1] (exMW w) fun e w' => (∃ b o c b2 o2 c1 c2 b3 o3, e = .returned (.tuple #[.slice (some ⟨b, o, none⟩) 1 c, .int .i64 0]) ∧ 1 ≤ c ∧ ExI w' b o b2 o2 c1 c2 b3 o3) ∧ Calm (exMW w) w') :=
    (minv_c exM 1 1 _ (exMW w) (exMW_ents w) (Nat.le_refl _) (by decide) rfl exM_small).mono fun e w' ⟨h1, h2⟩ => ⟨exI_of h1, h2⟩
  have KB : Hid (∀ W, Calm (exMW w) W → Calls Tryz.prog 20 #[.slice (some ⟨w.heap.size + 1 + 1 + 1 + 1 + 1 + 1, 0, none⟩) 1 1, .string ⟨#[47, 47, 99, 47, 97]⟩] W fun e w' => e = .returned (.tuple #[.string ⟨#[47, 47, 100, 47, 97]⟩, .bool true]) ∧ Calm W w') := fun W hW => by
    have := mbwd_c exM [47, 47, 99, 47, 97] 1 1 _ W ((exMW_ents w).calm hW) (Nat.le_refl _) (by decide) rfl exM_small (by decide) (hM.calm ((exMW_calm w).trans hW))
    unfold mbV at this
    rw [if_pos exM_ok] at this
    unfold bwV at this
    rw [exM_bwd] at this
    exact this
  have HC : Hid (Calm w (exMW w)) := exMW_calm w
  clear hM
  go_enter Tryz.func11, Tryz.ntmps11
  go_wp2_with fail
  refine KI.out.mono ?_
  rintro e w3 ⟨⟨b, o, c, b2, o2, c1, c2, b3, o3, rfl, hc, hx⟩, hc3⟩
  have HX := Lib.hid hx
  have HC3 := Lib.hid hc3
  clear hx hc3
  go_wp2_with fail
  refine (KB.out w3 HC3.out).mono ?_
  rintro e w4 ⟨rfl, hc4⟩
  have hx4 := HX.out.calm hc4
  have x1 := hx4.h
  have x2 := hx4.p
  have x3 := hx4.s
  clear hx4
  go_wp2_with fail
  go_ret
  exact ⟨rfl, HC.out.trans (HC3.out.trans hc4)⟩
end Go.Proofs.YtmfjppaeddbdaaaGreatDoor
set_option linter.unusedVariables false
set_option linter.unusedSimpArgs false
namespace Go.Proofs.YtmfjppaeddbdaaaGreatDoor
open Go Go.RowKit Sy

theorem mapping_zero {m : List Ent} (h : Mapping m) : (mapE m).2 = 0 := by
  rcases mapE_or h.good (fun _ => by
    rw [List.pairwise_iff_getElem]
    intro i j hi hj hij
    exact h.apart j i _ _ (List.getElem?_eq_getElem hj) (List.getElem?_eq_getElem hi) hij) with h1 | h1
  · exact h1
  · exfalso
    unfold mapE at h1
    have e1 : m.findIdx? (fun x => !entryOk x) = none := by
      rw [List.findIdx?_eq_none_iff]
      intro x hx
      rw [entryOk_iff.2 (h.good x hx)]
      rfl
    rw [e1] at h1
    simp only at h1
    have hf := h.few
    rw [if_neg (by omega)] at h1
    have e2 : ¬ (m.any (fun x => (rightG x).isNone) = true) := by
      rw [List.any_eq_true]
      rintro ⟨x, hx, hn⟩
      obtain ⟨g, hg⟩ := h.right x hx
      rw [hg] at hn
      cases hn
    rw [if_neg e2] at h1
    rcases e3 : (List.range m.length).find? (clashAt m) with _ | i
    · rw [e3] at h1; cases h1
    · rw [e3] at h1; cases h1
theorem hasS_path {x : Ent} (hg : gErr x.reg = 0) {s : Str} {l : List Str} (hp : pathOf s = some l) : hasS x.left x.hs s = hasG x.reg l := by
  rw [hasS_hasR (b := x.left) (hs := x.hs) (gErr_zero hg).1 (gErr_zero hg).2.1]
  unfold hasR
  rw [hp]
  rfl
theorem hasS_nopath {b : Pat} {hs : List Pat} {s : Str} (hp : pathOf s = none) : hasS b hs s = false := by
  unfold hasS
  rw [matchS, hp]
  rfl
theorem hasG_match {x : Ent} {l : List Str} (h : hasG x.reg l = true) : matchL x.left l = true := by
  unfold hasG hasL at h
  rw [Bool.and_eq_true] at h
  exact h.1
theorem fwd_path {r : Rule} (hr : ruleErr r = 0) {s : Str} {l : List Str} (hp : pathOf s = some l) : fwd r s = if matchL r.left l then some (pathStr (trL r.left r.right l)) else none := by
  unfold fwd
  rw [if_pos hr, hp]
theorem fwd_nopath {r : Rule} {s : Str} (hp : pathOf s = none) : fwd r s = none := by
  unfold fwd
  rw [hp]
  split <;> rfl
theorem find_congr {α : Type} {p q : α → Bool} : ∀ {l : List α}, (∀ a ∈ l, p a = q a) → l.find? p = l.find? q
  | [], _ => rfl
  | a :: l, h => by
    rw [List.find?_cons, List.find?_cons, h a List.mem_cons_self, find_congr fun b hb => h b (List.mem_cons_of_mem _ hb)]
theorem bySE_fwdM {es : List Ent} (h : Mapping es) (s : Str) : bySE es s = fwdM es s := by
  unfold bySE fwdM
  rcases hp : pathOf s with _ | l
  · have : es.find? (fun x => hasS x.left x.hs s) = none := by
      rw [List.find?_eq_none]
      intro x hx
      rw [hasS_nopath hp]
      simp
    rw [this]
  · have e : es.find? (fun x => hasS x.left x.hs s) = es.find? fun x => hasG x.reg l := find_congr fun x hx => hasS_path (h.good x hx).2 hp
    rw [e]
    rcases hf : es.find? (fun x => hasG x.reg l) with _ | x
    · simp only [hf]
      rfl
    · have hx := List.mem_of_find?_eq_some hf
      have hh := List.find?_some (p := fun x : Ent => hasG x.reg l) hf
      simp only [hf, Option.map_some]
      rw [fwd_path (h.good x hx).1 hp, if_pos (show matchL x.rule.left l = true from hasG_match hh)]
      rfl
theorem bwE_path {x : Ent} (hr : ruleErr x.rule = 0) (hg : gErr x.reg = 0) {s : Str} {r : List Str} (hp : pathOf s = some r) : bwE x s = if hasR' r x then some (pathStr (trL x.right x.left r)) else none := by
  have hc := (pathOf_some hp).2.1
  have tw : Sy.Twin x.left x.right := ruleErr_twin.1 hr
  unfold bwE
  rw [fwd_path ((turn_err x.rule).2 hr) hp]
  show Option.filter _ (if matchL x.right r then some (pathStr (trL x.right x.left r)) else none) = _
  unfold hasR'
  rcases hm : matchL x.right r with _ | _
  · rfl
  · obtain ⟨t1, t2, t3, t4⟩ := tr_twin tw.turn hc hm
    simp only [if_true, Bool.true_and, Option.filter, hasS_path hg (pathOf_str t3 t2)]
theorem bwS_bwdM {es : List Ent} (h : Mapping es) (s : Str) : bwS es s = bwdM es s := by
  unfold bwS bwdM
  rcases hp : pathOf s with _ | r
  · rw [List.findSome?_eq_none_iff]
    intro x hx
    exact bwE_no (fwd_nopath hp)
  · simp only
    have key : ∀ es : List Ent, (∀ x ∈ es, ruleErr x.rule = 0 ∧ gErr x.reg = 0) → es.findSome? (fun x => bwE x s) = (es.find? (hasR' r)).map fun x => pathStr (trL x.right x.left r) := fun es => by
      induction es with
      | nil => intro _; rfl
      | cons x es ih =>
        intro hg
        have hx := hg x List.mem_cons_self
        rw [List.findSome?_cons, List.find?_cons, bwE_path hx.1 hx.2 hp]
        rcases hh : hasR' r x with _ | _
        · simp only [Bool.false_eq_true, if_false]
          exact ih fun y hy => hg y (List.mem_cons_of_mem _ hy)
        · simp
    exact key es h.good
def mfS (es : List Ent) (s : Str) : Option Str := if (mapE es).2 = 0 then fwdM es s else none
def mbS (es : List Ent) (s : Str) : Option Str := if (mapE es).2 = 0 then bwdM es s else none
def optV (o : Option Str) : Value := .tuple #[.string (bs (o.getD [])), .bool o.isSome]
theorem mfV_eq (es : List Ent) (s : Str) : mfV es s = optV (mfS es s) := by
  unfold mfV mfS
  by_cases h : (mapE es).2 = 0
  · rw [if_pos h, if_pos h]
    unfold byV optV
    rw [bySE_fwdM (mapE_zero h).1]
  · rw [if_neg h, if_neg h]
    rfl
theorem mbV_eq (es : List Ent) (s : Str) : mbV es s = optV (mbS es s) := by
  unfold mbV mbS
  by_cases h : (mapE es).2 = 0
  · rw [if_pos h, if_pos h]
    unfold bwV optV
    rw [bwS_bwdM (mapE_zero h).1]
  · rw [if_neg h, if_neg h]
    rfl
theorem inv_ok {es : List Ent} (h : (invE es).2 = 0) : (mapE es).2 = 0 ∧ (mapE (invE es).1).2 = 0 ∧ ∀ s, mfS (invE es).1 s = mbS es s ∧ mbS (invE es).1 s = mfS es s := by
  unfold invE at h ⊢
  by_cases h0 : (mapE es).2 ≠ 0
  · rw [if_pos h0] at h
    exact absurd h h0
  · rw [if_neg h0]
    have hm := (mapE_zero (by simpa using h0)).1
    have hi := inv_mapping hm
    have hz := mapping_zero hi
    refine ⟨by simpa using h0, hz, fun s => ?_⟩
    unfold mfS mbS
    rw [if_pos hz, if_pos (show (mapE es).2 = 0 by simpa using h0), if_pos hz, if_pos (show (mapE es).2 = 0 by simpa using h0)]
    exact ⟨inv_fwd hm s, inv_bwd hm s⟩
theorem back_forth {es : List Ent} {s t : Str} (h : mbS es s = some t) : mfS es t = some s := by
  unfold mbS at h
  unfold mfS
  split at h
  · rename_i h0
    rw [if_pos h0]
    exact bwd_fwd (mapE_zero h0).1 h
  · cases h
theorem bwS_len {es : List Ent} {s t : Str} (hsm : ∀ x ∈ es, SmallE x) (hs : s.length ≤ 300) (h : mbS es s = some t) : t.length ≤ 8000 := by
  unfold mbS at h
  split at h
  · rename_i h0
    have hm := (mapE_zero h0).1
    rw [← bwS_bwdM hm] at h
    unfold bwS at h
    obtain ⟨x, hx, hb⟩ := List.exists_of_findSome?_eq_some h
    unfold bwE at hb
    rcases hf : fwd x.rule.turn s with _ | u
    · rw [hf] at hb; cases hb
    · rw [hf] at hb
      have : u = t := by
        simp only [Option.filter] at hb
        split at hb
        · exact Option.some.inj hb
        · cases hb
      subst this
      exact fwd_len ((hsm x hx).v (hm.good x hx).1).turn hs hf
  · cases h
end Go.Proofs.YtmfjppaeddbdaaaGreatDoor
set_option linter.unusedVariables false
set_option linter.unusedSimpArgs false
namespace Go.Proofs.YtmfjppaeddbdaaaGreatDoor
open Go Go.RowKit Sy

end Go.Proofs.YtmfjppaeddbdaaaGreatDoor
set_option linter.unusedVariables false
set_option linter.unusedSimpArgs false
namespace Go.Proofs.YtmfjppaeddbdaaaGreatDoor
open Go Go.RowKit Sy

set_option maxHeartbeats 4000000 in
theorem regions_c (gs : List Reg) (n c c' : Nat) (A A' : Option Addr) (w : World) (h : GrsR w A gs) (h' : GrsR w A' gs) (hn : gs.length = n) (hl : n ≤ 1048576) (hnc : n ≤ c) (hnc' : n ≤ c') :
    Calls Tryz.prog 19 #[.slice A n c, .slice A' n c'] w fun e w' => e = .returned (.bool true) ∧ Calm w w' := by
  have HG := Lib.hid h
  have HG' := Lib.hid h'
  have HN := Lib.hid hn
  clear h h' hn
  go_enter Tryz.func19, Tryz.ntmps19
  go_wp2_with fail
  go_loopw [13] (fun u wr => ∃ k : Nat, k ≤ n ∧ u = .int .i64 k ∧ Hid (Calm w wr)) (fun u _ => n - (intOf u).toNat)
  case atStart => exact ⟨0, Nat.zero_le _, rfl, Calm.refl _⟩
  case round =>
    obtain ⟨k, hk, rfl, HCr⟩ := hrel
    obtain ⟨wq, rfl⟩ : ∃ wq, wq = wr := ⟨_, rfl⟩
    by_cases hlt : k < n
    · obtain ⟨b, o, z, rfl, hb, hz, c0, c1, c2, hu⟩ := (HG.out.calm HCr.out).get (k := k) (by rw [HN.out]; exact hlt)
      obtain ⟨b', o', z', rfl, hb', hz', d0, d1, d2, hu'⟩ := (HG'.out.calm HCr.out).get (k := k) (by rw [HN.out]; exact hlt)
      have hzz : z'.g = z.g := by rw [hz] at hz'; exact (Option.some.inj hz').symm
      rw [hzz] at d0 d1 d2
      have hub := hu'.b
      have huh := hu'.h
      rw [hzz] at hub huh
      obtain ⟨gn, hgn⟩ : ∃ gn, z.g.b.parts.length = gn := ⟨_, rfl⟩
      obtain ⟨gr, hgr⟩ : ∃ gr, z.g.b.rest = gr := ⟨_, rfl⟩
      obtain ⟨gm, hgm⟩ : ∃ gm, z.g.hs.length = gm := ⟨_, rfl⟩
      rw [hgn] at c0 d0
      rw [hgr] at c1 d1
      rw [hgm] at c2 d2
      have KS : Hid (∀ p : CalmTo wq, Calls Tryz.prog 44 #[.agg #[.slice z.A gn z.c, .bool gr, .slice z.HA gm z.hc], .agg #[.slice z'.A gn z'.c, .bool gr, .slice z'.HA gm z'.hc]] p.w fun e w' => e = .returned (.bool true) ∧ Calm p.w w') := fun p =>
        rsameg_c z.g.b z.g.hs gn gm gr z.A z.c z.HA z.hc z'.A z'.c z'.HA z'.hc p.w (hu.b.calm p.h).r.toU (hub.calm p.h).r.toU ((hu.h.calm p.h).toV) ((huh.calm p.h).toV) hgn hgm hgr
      have s0 := fun p : CalmTo wq => p.cell c0 hb
      have s1 := fun p : CalmTo wq => p.cell c1 hb
      have s2 := fun p : CalmTo wq => p.cell c2 hb
      have t0 := fun p : CalmTo wq => p.cell d0 hb'
      have t1 := fun p : CalmTo wq => p.cell d1 hb'
      have t2 := fun p : CalmTo wq => p.cell d2 hb'
      have hki : (0 : Int) ≤ (k : Int) := by omega
      have hkn : (k : Int) < (n : Int) := by omega
      clear hz hz' hzz hub huh hgn hgr hgm c0 c1 c2 d0 d1 d2 hu hu'
      go_wp2_with fail
      refine wp_region_calm (by kernel_rfl) (by kernel_rfl) ?_
      repeat (go_big_quiet_step (first | (go_at_call 44; with_reducible exact calmOf (KS.out _))))
      refine wpQuiet_nil ?_
      intro w3 hc3
      have HC3 : Hid (Calm w w3) := HCr.out.trans hc3
      clear hc3 s0 s1 s2 t0 t1 t2
      go_wp2
      go_roundw
      case rel => exact ⟨k + 1, by omega, by go_num, HC3.out⟩
      case measure => simp [intOf]; omega
    · obtain rfl : k = n := by omega
      go_wp2_with fail
      go_ret
      exact ⟨rfl, HCr.out⟩
set_option maxHeartbeats 4000000 in
theorem count_c (gs : List Reg) (s : Str) (n c : Nat) (A : Option Addr) (w : World) (h : GrsR w A gs) (hn : gs.length = n) (hl : n ≤ 1048576) (hgd : ∀ g ∈ gs, gErr g = 0) (hsl : s.length ≤ 10000) (hM : MaxL w) :
    Calls Tryz.prog 27 #[.slice A n c, .string (bs s)] w fun e w' => e = .returned (.int .i64 ((gs.countP fun g => hasS g.b g.hs s : Nat) : Int)) ∧ Calm w w' := by
  have HG := Lib.hid h
  have HN := Lib.hid hn
  have HGd := Lib.hid hgd
  have HM := Lib.hid hM
  clear h hn hgd hM
  go_enter Tryz.func27, Tryz.ntmps27
  go_wp2_with fail
  go_loopw [5, 10] (fun v u wr => ∃ k T : Nat, k ≤ n ∧ T ≤ k ∧ u = .int .i64 k ∧ v = .int .i64 T ∧ Hid ((gs.take k).countP (fun g => hasS g.b g.hs s) = T) ∧ Hid (Calm w wr)) (fun _ u _ => n - (intOf u).toNat)
  case atStart => exact ⟨0, 0, Nat.zero_le _, Nat.le_refl _, rfl, rfl, rfl, Calm.refl _⟩
  case round =>
    obtain ⟨k, T, hk, hT, rfl, rfl, HT, HCr⟩ := hrel
    obtain ⟨wq, rfl⟩ : ∃ wq, wq = wr := ⟨_, rfl⟩
    by_cases hlt : k < n
    · obtain ⟨b, o, z, rfl, hb, hz, c0, c1, c2, hu⟩ := (HG.out.calm HCr.out).get (k := k) (by rw [HN.out]; exact hlt)
      have hg := HGd.out z.g (List.mem_of_getElem? hz)
      obtain ⟨gn, hgn⟩ : ∃ gn, z.g.b.parts.length = gn := ⟨_, rfl⟩
      obtain ⟨gr, hgr⟩ : ∃ gr, z.g.b.rest = gr := ⟨_, rfl⟩
      obtain ⟨gm, hgm⟩ : ∃ gm, z.g.hs.length = gm := ⟨_, rfl⟩
      obtain ⟨v, hv⟩ : ∃ v, hasS z.g.b z.g.hs s = v := ⟨_, rfl⟩
      rw [hgn] at c0
      rw [hgr] at c1
      rw [hgm] at c2
      have KH : Hid (∀ W, Calm wq W → Calls Tryz.prog 28 #[.agg #[.slice z.A gn z.c, .bool gr, .slice z.HA gm z.hc], .string (bs s)] W fun e w' => e = .returned (.bool v) ∧ Calm W w') := fun W hW =>
        has_g ⟨z.g.b, z.g.b, z.g.hs⟩ s v z.A gn z.c z.HA gm z.hc gr W hsl (hu.b.calm hW).r hu.b.room hu.b.cap (hu.h.calm hW) (HM.out.calm (HCr.out.trans hW)) hg hv hgn hgm hgr
      have HT2 : Hid ((gs.take (k + 1)).countP (fun g => hasS g.b g.hs s) = T + if v then 1 else 0) := by
        show (gs.take (k + 1)).countP (fun g => hasS g.b g.hs s) = _
        rw [take_snoc hz, List.countP_append, HT.out, List.countP_cons, List.countP_nil, hv]
        simp
      obtain ⟨wb, hwb⟩ : ∃ wb, wb = wq.alloc (.cells #[.slice z.A gn z.c, .bool gr, .slice z.HA gm z.hc] 43) := ⟨_, rfl⟩
      have hcb : Calm wq wb := by
        show Below _ _ _
        rw [hwb]
        exact (Calm.refl _).alloc _
      have HCb := Lib.hid hcb
      have HWb := Lib.hid hwb
      clear hz hu hg hgn hgr hgm hv hcb hwb
      go_wp2_with fail
      rw [← HWb.out]
      refine (KH.out wb HCb.out).mono ?_
      rintro e w3 ⟨rfl, hc3⟩
      have HC3 : Hid (Calm w w3) := HCr.out.trans (HCb.out.trans hc3)
      clear hc3 c0 c1 c2
      cases v with
      | true =>
        go_wp2_with fail
        go_roundw
        case rel => exact ⟨k + 1, T + 1, by omega, by omega, by go_num, by go_num, HT2.out, HC3.out⟩
        case measure => simp [intOf]; omega
      | false =>
        go_wp2_with fail
        go_roundw
        case rel => exact ⟨k + 1, T, by omega, by omega, by go_num, rfl, HT2.out, HC3.out⟩
        case measure => simp [intOf]; omega
    · obtain rfl : k = n := by omega
      have HF : Hid (gs.countP (fun g => hasS g.b g.hs s) = T) := by
        have := HT.out
        rw [List.take_of_length_le (by rw [HN.out]; exact Nat.le_refl _)] at this
        exact this
      go_wp2_with fail
      go_ret
      exact ⟨ret_int (by rw [HF.out]), HCr.out⟩
end Go.Proofs.YtmfjppaeddbdaaaGreatDoor
set_option linter.unusedVariables false
set_option linter.unusedSimpArgs false
namespace Go.Proofs.YtmfjppaeddbdaaaGreatDoor
open Go Go.RowKit Sy

set_option maxHeartbeats 4000000 in
theorem sameE_c (es : List Ent) (n c c' : Nat) (A A' : Option Addr) (w : World) (h : EntsR w A es) (h' : EntsR w A' es) (hn : es.length = n) (hl : n ≤ 9223372036854775807) :
    Calls Tryz.prog 16 #[.slice A n c, .slice A' n c'] w fun e w' => e = .returned (.bool true) ∧ Calm w w' := by
  have HE := Lib.hid h
  have HE' := Lib.hid h'
  have HN := Lib.hid hn
  clear h h' hn
  go_enter Tryz.func16, Tryz.ntmps16
  go_wp2_with fail
  go_loopw [13] (fun u wr => ∃ k : Nat, k ≤ n ∧ u = .int .i64 k ∧ Hid (Calm w wr)) (fun u _ => n - (intOf u).toNat)
  case atStart => exact ⟨0, Nat.zero_le _, rfl, Calm.refl _⟩
  case round =>
    obtain ⟨k, hk, rfl, HCr⟩ := hrel
    by_cases hlt : k < n
    · obtain ⟨b, o, z, rfl, hb, hz, c0, c1, c2, c3, c4, hu⟩ := (HE.out.calm HCr.out).get (k := k) (by rw [HN.out]; exact hlt)
      obtain ⟨b', o', z', rfl, hb', hz', d0, d1, d2, d3, d4, hu'⟩ := (HE'.out.calm HCr.out).get (k := k) (by rw [HN.out]; exact hlt)
      have he : z'.e = z.e := by
        rw [hz] at hz'
        exact (Option.some.inj hz').symm
      obtain ⟨e0, he0⟩ : ∃ e0, z.e = e0 := ⟨_, rfl⟩
      rw [he0] at he c0 c1 c2 c3 c4
      rw [he] at d0 d1 d2 d3 d4
      have ul := hu.l
      have ur := hu.r
      have uh := hu.h
      have ul' := hu'.l
      have ur' := hu'.r
      have uh' := hu'.h
      rw [he0] at ul ur uh
      rw [he] at ul' ur' uh'
      obtain ⟨nl, hnl⟩ : ∃ nl, e0.left.parts.length = nl := ⟨_, rfl⟩
      obtain ⟨nr, hnr⟩ : ∃ nr, e0.right.parts.length = nr := ⟨_, rfl⟩
      obtain ⟨lr, hlr⟩ : ∃ lr, e0.left.rest = lr := ⟨_, rfl⟩
      obtain ⟨rr, hrr⟩ : ∃ rr, e0.right.rest = rr := ⟨_, rfl⟩
      obtain ⟨hn, hhn⟩ : ∃ hn, e0.hs.length = hn := ⟨_, rfl⟩
      rw [hnl] at c0 d0
      rw [hlr] at c1 d1
      rw [hnr] at c2 d2
      rw [hrr] at c3 d3
      rw [hhn] at c4 d4
      have K1 := Lib.hid (fun q : CalmTo wr => same_v e0.right nr z.rc z'.rc rr z.RA z'.RA q.w (ur.calm q.h).r.toU (ur'.calm q.h).r.toU hnr hrr)
      have K2 := Lib.hid (fun q : CalmTo wr => rsameg_c e0.left e0.hs nl hn lr z.LA z.lc z.HA z.hc z'.LA z'.lc z'.HA z'.hc q.w (ul.calm q.h).r.toU (ul'.calm q.h).r.toU (uh.calm q.h).toV (uh'.calm q.h).toV hnl hhn hlr)
      have f0 := fun q : CalmTo wr => q.cell c0 hb
      have f1 := fun q : CalmTo wr => q.cell c1 hb
      have f2 := fun q : CalmTo wr => q.cell c2 hb
      have f3 := fun q : CalmTo wr => q.cell c3 hb
      have f4 := fun q : CalmTo wr => q.cell c4 hb
      have g0 := fun q : CalmTo wr => q.cell d0 hb'
      have g1 := fun q : CalmTo wr => q.cell d1 hb'
      have g2 := fun q : CalmTo wr => q.cell d2 hb'
      have g3 := fun q : CalmTo wr => q.cell d3 hb'
      have g4 := fun q : CalmTo wr => q.cell d4 hb'
      clear hz hz' he he0 hu hu' ul ur uh ul' ur' uh' hnl hnr hlr hrr hhn c0 c1 c2 c3 c4 d0 d1 d2 d3 d4
      go_wp2_with fail
      refine wp_region_calm (by kernel_rfl) (by kernel_rfl) ?_
      repeat (go_big_quiet_step (first
        | (go_at_call 43; with_reducible exact calmOf (K1.out _))
        | (go_at_call 44; with_reducible exact calmOf (K2.out _))))
      refine wpQuiet_nil ?_
      intro w7 hc7
      have HC7 : Hid (Calm w w7) := HCr.out.trans hc7
      clear hc7 f0 f1 f2 f3 f4 g0 g1 g2 g3 g4
      go_wp2_with fail
      go_roundw
      case rel => exact ⟨k + 1, by omega, by go_num, HC7⟩
      case measure => simp [intOf]; omega
    · obtain rfl : k = n := by omega
      go_wp2_with fail
      go_ret
      exact ⟨rfl, HCr.out⟩
end Go.Proofs.YtmfjppaeddbdaaaGreatDoor
set_option linter.unusedVariables false
set_option linter.unusedSimpArgs false
namespace Go.Proofs.YtmfjppaeddbdaaaGreatDoor
open Go Go.RowKit Sy
theorem smallK (es : List Ent) (n c : Nat) (A : Option Addr) (w : World) (h : EntsA w A es) (hcn : n ≤ c) (hcc : c ≤ 9223372036854775807) (hn : es.length = n) :
    Calls Tryz.prog 10 #[.slice A n c] w fun e w' => (∃ b, e = .returned (.bool b) ∧ (b = true → ∀ x ∈ es, SizeE 60 x)) ∧ Calm w w' :=
  (smallM_c es n c A w h hcn hcc hn).mono fun e w' ⟨⟨b, h1, h2⟩, h3⟩ => ⟨⟨b, h1, fun hb => (h2 hb).2⟩, h3⟩
end Go.Proofs.YtmfjppaeddbdaaaGreatDoor
