/- Walk: mapping.Inverse. -/
import Derived.Test.YteplgaabicminaaGreatDoorZMapD
import Derived.Test.YteplgaabicminaaGreatDoorZPutA
import Derived.Test.YteplgaabicminaaGreatDoorZMapA
import Derived.Test.YteplgaabicminaaGreatDoorZRedM
import Derived.Test.YteplgaabicminaaGreatDoorZCheckV
import Derived.Test.YteplgaabicminaaGreatDoorZFwdM
set_option linter.unusedVariables false
set_option linter.unusedSimpArgs false
namespace Go.Proofs.YteplgaabicminaaGreatDoor.Sy

end Go.Proofs.YteplgaabicminaaGreatDoor.Sy
set_option linter.unusedVariables false
set_option linter.unusedSimpArgs false
namespace Go.Proofs.YteplgaabicminaaGreatDoor
open Go Go.RowKit Sy
def EntOut (es : List Ent) (er : Int) (B : Nat) (e : Ending) (w' : World) : Prop := ∃ A c, e = .returned (.tuple #[.slice A es.length c, .int .i64 er]) ∧ es.length ≤ c ∧ c ≤ 9223372036854775807 ∧ ∃ zs : List NewE, zs.map (·.e) = es ∧ ReadX encE 5 w' A zs ∧ ∀ z ∈ zs, EntN w' B z
theorem entOut_err (er : Int) (B : Nat) (w' : World) : EntOut [] er B (.returned (.tuple #[.slice none 0 0, .int .i64 er])) w' := ⟨none, 0, rfl, Nat.le_refl _, by omega, [], rfl, fun h => absurd rfl h, fun z hz => by cases hz⟩
theorem ResE.out {w0 : World} {es : List Ent} {e : Ending} {w' : World} (h : ResE w0 es e w') : EntOut (if 32 < es.length then [] else es) (if 32 < es.length then 72 else 0) w0.heap.size e w' := by
  unfold ResE at h
  split at h
  · rename_i h1
    rw [if_pos h1, if_pos h1, h]
    exact entOut_err _ _ _
  · rename_i h1
    rw [if_neg h1, if_neg h1]
    exact h
theorem PatsR.toU {w : World} {A : Option Addr} {ps : List Pat} (h : PatsR w A ps) : PatsU w A ps :=
  ⟨by have := h.len; omega, fun h0 => by
    obtain ⟨b, o, hA, hb, hk⟩ := h.at_ h0
    refine ⟨b, o, hA, hb, fun k p hp => ?_⟩
    obtain ⟨Ak, ck, g1, g2, g3, g4, g5⟩ := hk k p hp
    exact ⟨Ak, ck, g1, g2, g3, g4, g5.toU⟩⟩
theorem EntN.toA {w : World} {B : Nat} {z : NewE} (h : EntN w B z) : EntA w z :=
  ⟨h.l.a.r.toU, h.r.a.r.toU, PatsR.toU (h.h.reads h.few), h.l.a.room, h.r.a.room, h.h.room, h.l.a.cap, h.r.a.cap, h.h.cap⟩
theorem entsA_of {w : World} {A : Option Addr} {es : List Ent} {zs : List NewE} {B : Nat} (h1 : zs.map (·.e) = es) (h2 : ReadX encE 5 w A zs) (h3 : ∀ z ∈ zs, EntN w B z) (hl : es.length ≤ 1048576) : EntsA w A es := ⟨hl, zs, h1, h2, fun z hz => (h3 z hz).toA⟩
theorem colA_new {w0 w : World} (hc : Calm w0 w) : ColA w0 (w.alloc (.cells #[.slice none 0 0, .bool false] 44)) w.heap.size [] := .inl ⟨_, _, ColE.new hc, rfl, Nat.zero_le _⟩
theorem PutEnd.some {w0 w' : World} {G : Nat} {es : List Ent} {n : Rule} {ps : List Pat} {e : Ending} {o : Option Ent} (h : PutEnd w0 w' G es n ps e) (ho : putH n ps = some o) : e = .returned (.int .i64 0) ∧ ColA w0 w' G (es ++ o.toList) := by
  unfold PutEnd at h
  rw [ho] at h
  cases o with
  | none => exact ⟨h.1, by simpa using h.2⟩
  | some x => exact h
theorem PutEnd.none {w0 w' : World} {G : Nat} {es : List Ent} {n : Rule} {ps : List Pat} {e : Ending} (h : PutEnd w0 w' G es n ps e) (ho : putH n ps = none) : e = .returned (.int .i64 72) ∧ ColA w0 w' G es := by
  unfold PutEnd at h
  rw [ho] at h
  exact h
theorem take_filterMap {α β : Type} {f : α → Option β} {l : List α} {k : Nat} {x : α} (h : l[k]? = some x) : (l.take (k + 1)).filterMap f = (l.take k).filterMap f ++ (f x).toList := by
  rw [take_snoc h, List.filterMap_append]
  rfl
end Go.Proofs.YteplgaabicminaaGreatDoor
set_option linter.unusedVariables false
set_option linter.unusedSimpArgs false
namespace Go.Proofs.YteplgaabicminaaGreatDoor
open Go Go.RowKit Sy

theorem inv_put {x : Ent} {ks : List Pat} (h : rightHs x.rule x.hs = some ks) (h64 : ks.length ≤ 64) : putH ⟨false, x.right, x.left⟩ ks = some (invOf x) := by
  have h1 := redL_len x.right ks
  unfold putH invOf rightG
  rw [h]
  show (if 64 < (redL x.right ks).length then _ else _) = _
  rw [if_neg (by omega)]
  simp only [Option.map_some]
  split <;> rfl
set_option maxHeartbeats 8000000 in
theorem minv_c (es : List Ent) (n c : Nat) (A : Option Addr) (w : World) (h : EntsA w A es) (hcn : n ≤ c) (hcc : c ≤ 9223372036854775807) (hn : es.length = n) (hsm : ∀ x ∈ es, SmallE x) :
    Calls Tryz.prog 14 #[.slice A n c] w fun e w' => EntOut (invE es).1 (invE es).2 w.heap.size e w' ∧ Calm w w' := by
  have hl : n ≤ 1048576 := by rw [← hn]; exact h.1
  obtain ⟨er, her⟩ : ∃ er, (mapE es).2 = er := ⟨_, rfl⟩
  obtain ⟨w1, hw1⟩ : ∃ w1, w1 = w.alloc (.cells #[.slice A n c] 22) := ⟨_, rfl⟩
  have hc1 : Calm w w1 := by rw [hw1]; exact (Calm.refl w).alloc _
  have KC := check1_c es n c w.heap.size A er w1 (h.calm hc1) hcn hcc hsm hn her (by rw [hw1]; simp) (by rw [hw1]; simp)
  have HV0 : er ≠ 0 → Hid (invE es = ([], er)) := fun h0 => by
    show invE es = _
    unfold invE
    rw [her, if_pos h0]
  have HV1 : er = 0 → Hid (invE es = (es.filterMap invOf, 0) ∧ Mapping es) := fun h0 => by
    refine ⟨?_, (mapE_zero (her.trans h0)).1⟩
    show invE es = _
    unfold invE
    rw [her, if_neg (by simpa using h0)]
  have HE := Lib.hid h
  have HN := Lib.hid hn
  have HS := Lib.hid hsm
  have HW := Lib.hid hw1
  have HC := Lib.hid hc1
  have HKC := Lib.hid KC
  clear h hn hsm hw1 hc1 KC her
  go_enter Tryz.func14, Tryz.ntmps14
  by_cases h0 : er = 0
  · subst h0
    have HV := HV1 rfl
    clear HV0 HV1
    go_wp2_with fail
    rw [← HW.out]
    refine HKC.out.mono ?_
    rintro e w2 ⟨rfl, hc2⟩
    obtain ⟨G, hG⟩ : ∃ G, w2.heap.size = G := ⟨_, rfl⟩
    obtain ⟨w3, hw3⟩ : ∃ w3, w3 = w2.alloc (.cells #[.slice none 0 0, .bool false] 44) := ⟨_, rfl⟩
    have HCol : Hid (ColA w w3 G []) := by
      show ColA w w3 G []
      rw [hw3, ← hG]
      exact colA_new (HC.out.trans hc2)
    have HW3 := Lib.hid hw3
    have HG := Lib.hid hG
    clear hc2 hw3 hG
    go_wp2_with fail
    rw [← HW3.out, HG.out]
    go_loopw [19] (fun u wr => ∃ k : Nat, k ≤ n ∧ u = .int .i64 k ∧ Hid (ColA w wr G ((es.take k).filterMap invOf))) (fun u _ => n - (intOf u).toNat)
    case atStart => exact ⟨0, Nat.zero_le _, rfl, HCol.out⟩
    case round =>
      obtain ⟨k, hk, rfl, HCr⟩ := hrel
      obtain ⟨wq, rfl⟩ : ∃ wq, wq = wr := ⟨_, rfl⟩
      by_cases hlt : k < n
      · obtain ⟨b, o, z, rfl, hb, hz, c0, c1, c2, c3, c4, hua⟩ := (HE.out.calm HCr.out.calm).get (k := k) (by rw [HN.out]; exact hlt)
        have hmem := List.mem_of_getElem? hz
        have hgd := HV.out.2.good z.e hmem
        have hss := HS.out _ hmem
        have hu := hua.few hss hgd.2
        obtain ⟨g, hgr⟩ := HV.out.2.right z.e hmem
        obtain ⟨ks, hks, _⟩ := Option.map_eq_some_iff.1 hgr
        have hkl : ks.length ≤ 64 := by
          have h1 := (rightHs_good hks).2
          have h2 : z.e.reg.hs.length ≤ 64 := (gErr_zero hgd.2).2.2
          have e : z.e.reg.hs = z.e.hs := rfl
          rw [e] at h2
          omega
        have hkg := (rightHs_good hks).1
        have hpt := inv_put hks hkl
        have htf : (es.take (k + 1)).filterMap invOf = (es.take k).filterMap invOf ++ (invOf z.e).toList := take_filterMap hz
        have htw : Sy.Twin z.e.left z.e.right := ruleErr_twin.1 hgd.1
        obtain ⟨nl, hnl⟩ : ∃ nl, z.e.left.parts.length = nl := ⟨_, rfl⟩
        obtain ⟨nr, hnr⟩ : ∃ nr, z.e.right.parts.length = nr := ⟨_, rfl⟩
        obtain ⟨lr, hlr⟩ : ∃ lr, z.e.left.rest = lr := ⟨_, rfl⟩
        obtain ⟨rr, hrr⟩ : ∃ rr, z.e.right.rest = rr := ⟨_, rfl⟩
        obtain ⟨hn, hhn⟩ : ∃ hn, z.e.hs.length = hn := ⟨_, rfl⟩
        obtain ⟨m, hm⟩ : ∃ m, ks.length = m := ⟨_, rfl⟩
        rw [hnl] at c0
        rw [hlr] at c1
        rw [hnr] at c2
        rw [hrr] at c3
        rw [hhn] at c4
        have KR : Hid (∀ W, Calm wq W → Calls Tryz.prog 32 #[entV z.LA z.RA z.HA nl z.lc nr z.rc hn z.hc lr rr] W fun e w' => (∃ KA kc, e = .returned (.tuple #[.agg #[.slice z.RA nr z.rc, .bool rr, .slice KA m kc], .int .i64 0]) ∧ PatsN w' W.heap.size KA kc ks) ∧ Calm W w') := fun W hW => by
          have := right_c z nl nr hn lr rr z.HA W (hu.calm hW) hss hgd.1 hgd.2 hnl hnr hhn hlr hrr rfl
          unfold RightEnd at this
          rw [hks] at this
          simp only [hnr, hrr, hm] at this
          exact this
        have KP : Hid (∀ W KA kc B, Calm wq W → PatsN W B KA kc ks → Calls Tryz.prog 22 #[.pointer (some ⟨G, 0, none⟩), .agg #[.bool false, .slice z.RA nr z.rc, .bool rr, .slice z.LA nl z.lc, .bool lr], .slice KA m kc] W fun e w' => e = .returned (.int .i64 0) ∧ ColA w w' G ((es.take k).filterMap invOf ++ (invOf z.e).toList)) := fun W KA kc B hW hP => by
          have huW := hu.calm hW
          have := put_k w wq W G ((es.take k).filterMap invOf) ⟨false, z.e.right, z.e.left⟩ ks ⟨z.RA, z.rc, z.LA, z.lc⟩ false nr nl m kc rr lr KA HCr.out hW huW.r huW.l hnr hnl hrr hlr (fun W2 hW2 => mreduce_c z.e.right ks z.RA z.rc KA nr m kc rr W2 (huW.r.calm hW2) ((hP.calm hW2).reads (by omega)) hnr hrr hm htw.rp hkg)
          exact this.mono fun e w' hp => hp.1.some hpt
        have HTf := Lib.hid htf
        obtain ⟨B, hB⟩ : ∃ B, wq.heap.size = B := ⟨_, rfl⟩
        obtain ⟨wb, hwb⟩ : ∃ wb, wb = wq.alloc (.cells #[.slice z.LA nl z.lc, .bool lr, .slice z.RA nr z.rc, .bool rr, .slice z.HA hn z.hc] 41) := ⟨_, rfl⟩
        have hf : FiveB wb B (.slice z.LA nl z.lc) (.bool lr) (.slice z.RA nr z.rc) (.bool rr) (.slice z.HA hn z.hc) := by
          rw [hwb, ← hB]
          exact FiveB.new wq _ _ _ _ _ _
        have hcb : Calm wq wb := by
          show Below _ _ _
          rw [hwb]
          exact (Calm.refl _).alloc _
        have HF := Lib.hid hf
        have HCb := Lib.hid hcb
        have HWb := Lib.hid hwb
        have HBB := Lib.hid hB
        clear hz hu hua hnl hnr hlr hrr hhn hf hcb hwb hB hmem hgd hss hgr hks hkl hkg hpt htf htw hm
        go_wp2_with fail
        rw [← HWb.out]
        refine (KR.out wb HCb.out).mono ?_
        rintro e w3 ⟨⟨KA, kc, rfl, hP⟩, hc3⟩
        rw [HBB.out]
        clear c0 c1 c2 c3 c4
        obtain ⟨w4, hw4⟩ : ∃ w4, w4 = w3.alloc (.cells #[.slice z.RA nr z.rc, .bool rr, .slice KA m kc] 63) := ⟨_, rfl⟩
        have hc34 : Calm w3 w4 := by
          show Below _ _ _
          rw [hw4]
          exact (Calm.refl _).alloc _
        have hf3 := HF.out.calm hc3
        have c0 := hf3.c0
        have c1 := hf3.c1
        have c2 := hf3.c2
        have c3 := hf3.c3
        have hlt3 := hf3.lt
        have HP4 := Lib.hid (hP.calm hc34)
        have HC4 : Hid (Calm wq w4) := HCb.out.trans (Calm.trans hc3 hc34)
        have HW4 := Lib.hid hw4
        clear hP hc3 hc34 hw4 hf3
        go_wp2_with fail
        rw [← HW4.out]
        refine (KP.out w4 KA kc _ HC4.out HP4.out).mono ?_
        rintro e w5 ⟨rfl, hcol⟩
        have HCol5 := Lib.hid hcol
        clear hcol c0 c1 c2 c3 hlt3
        go_wp2_with fail
        go_roundw
        case rel => exact ⟨k + 1, by omega, by go_num, by rw [HTf.out]; exact HCol5.out⟩
        case measure => simp [intOf]; omega
      · obtain rfl : k = n := by omega
        have HRs := Lib.hid (resultE_a w wq G _ HCr.out)
        have HFin : Hid ((es.take k).filterMap invOf = (invE es).1 ∧ (invE es).2 = 0 ∧ ¬ 32 < ((es.take k).filterMap invOf).length) := by
          have e1 : es.take k = es := by rw [List.take_of_length_le]; rw [HN.out]; omega
          rw [HV.out.1, e1]
          refine ⟨rfl, rfl, ?_⟩
          have := List.length_filterMap_le invOf es
          have := HV.out.2.few
          omega
        go_wp2_with fail
        refine HRs.out.mono ?_
        rintro e w6 ⟨hR, hc6⟩
        have hO := hR.out
        rw [if_neg HFin.out.2.2, if_neg HFin.out.2.2, HFin.out.1] at hO
        obtain ⟨A6, c6, rfl, r1, r2, r3⟩ := hO
        have HD : Hid (EntOut (invE es).1 (invE es).2 w.heap.size (.returned (.tuple #[.slice A6 (invE es).1.length c6, .int .i64 0])) w6) := by
          rw [HFin.out.2.1]
          exact ⟨A6, c6, rfl, r1, r2, r3⟩
        clear r1 r2 r3 hR
        generalize (invE es).1.length = L6 at HD ⊢
        go_wp2_with fail
        go_ret2
        exact ⟨HD.out, hc6⟩
  · have HV := HV0 h0
    have hb : (er != 0) = true := by simpa using h0
    clear HV0 HV1 h0
    go_wp2_with fail
    rw [← HW.out]
    refine HKC.out.mono ?_
    rintro e w2 ⟨rfl, hc2⟩
    go_wp2_with fail
    go_ret2
    exact ⟨by rw [HV.out]; exact entOut_err _ _ _, HC.out.trans hc2⟩
end Go.Proofs.YteplgaabicminaaGreatDoor
