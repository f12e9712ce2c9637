/- The law StreamLast: its walk. -/
import Derived.Test.YtlmclpbkhhgekaaDoorLawNar
import Derived.Test.YtlmclpbkhhgekaaDoorStrRow
import Derived.Test.YtlmclpbkhhgekaaDoorRMatch
import Derived.Deep.RegionHeld3
set_option linter.unusedVariables false
set_option linter.unusedSimpArgs false
namespace Go.Proofs.YtlmclpbkhhgekaaDoor
open Go Go.RowKit Sy

theorem rmatch_z (p : Pat) (s : Str) (y : Bool) (A : Option Addr) (c : Nat) (w : World) (hs : s.length ≤ 10000) (hr : StrsR w A p.parts) (hpc : p.parts.length ≤ c) (hc47 : c ≤ 9223372036854775807) (hM : MaxL w) (hy : matchS p s = y) :
    Calls Tryd.prog 14 #[.agg #[.slice A p.parts.length c, .bool p.rest], .string (bs s)] w fun e w' => (∃ A' n' c', e = .returned (.tuple #[.slice A' n' c', .bool y])) ∧ Calm w w' := by
  refine (rmatch_c p s A c w hs hr hpc hc47 hM).mono fun e w' ⟨h1, h2⟩ => ?_
  rcases h1 with ⟨h3, A', c', h4, _⟩ | ⟨h3, h4⟩
  · rw [hy] at h3
    subst h3
    exact ⟨⟨_, _, _, h4⟩, h2⟩
  · rw [hy] at h3
    subst h3
    exact ⟨⟨_, _, _, h4⟩, h2⟩
theorem addLine_len (ss : List Strm) (i : Nat) (x : Line) : (addLine ss i x).length = ss.length := by simp [addLine]
theorem addLine_small {ss : List Strm} {i : Nat} (hi : i < ss.length) {x : Line} (h : SmallSS (addLine ss i x)) : SmallSS ss ∧ SmallV x.rule := by
  have h1 : SmallV x.rule := by
    refine h (strm (addLine ss i x) i) (List.mem_of_getElem? (at_strm (by rw [addLine_len]; exact hi))) x ?_
    rw [addLine_at hi, if_pos rfl]
    simp
  refine ⟨fun s hs y hy => ?_, h1⟩
  obtain ⟨j, hj, rfl⟩ := List.mem_iff_getElem.1 hs
  have e : strm ss j = ss[j] := strm_at (List.getElem?_eq_getElem hj)
  refine h (strm (addLine ss i x) j) (List.mem_of_getElem? (at_strm (by rw [addLine_len]; exact hj))) y ?_
  rw [addLine_at hi]
  by_cases e2 : j = i
  · subst e2
    rw [if_pos rfl]
    exact List.mem_append_left _ (by rw [e]; exact hy)
  · rw [if_neg e2, e]
    exact hy
theorem locI_last_hit {ss : List Strm} {i : Nat} (hi : i < ss.length) {x : Line} (h : Sy.Good (addLine ss i x)) (hm : (strm ss i).parent = []) {c : Str} (hc : matchS x.path c = true) : (locI (addLine ss i x) i c).1 = if x.kind = 4 then 0 else x.kind := by
  obtain ⟨h1, h2⟩ := last_hit hi h hm hc
  unfold locI
  rw [if_pos h1]
  exact h2
theorem locI_last_miss {ss : List Strm} {i : Nat} (hi : i < ss.length) {x : Line} (h : Sy.Good (addLine ss i x)) (hm : (strm ss i).parent = []) {c : Str} (hc : matchS x.path c = false) : locI (addLine ss i x) i c = locI ss i c := by
  unfold locI
  rw [last_miss hi h hm hc]
theorem addLine_name {ss : List Strm} {i : Nat} (hi : i < ss.length) (x : Line) : (strm (addLine ss i x) i).name = (strm ss i).name := (addLine_kin hi x).name i

/-- What the region of the law leaves: the streams with one line more. -/
def MoreAt (w W : World) (g : Nat) (ss : List Strm) (i : Nat) (x : Line) : Prop := StrmsU W (some ⟨g, 0, none⟩) (addLine ss i x) ∧ Calm w W
set_option maxRecDepth 100000 in
set_option maxHeartbeats 8000000 in
theorem strLast_c (ss : List Strm) (z : Int) (x : Line) (a : Pl) (s : Str) (A : Option Addr) (n c : Nat) (w : World) (hv : StrmsU w A ss) (hn : ss.length = n) (hnc : n ≤ c) (hc : c ≤ 1048576) (hpb : ∀ t ∈ ss, t.paths.length ≤ 1048576) (hz : -9223372036854775808 ≤ z ∧ z ≤ 9223372036854775807) (hx : RuleU w a x.rule) (hs : s.length ≤ 1048576) (hM : MaxL w) :
    Calls Tryd.prog 5 #[.slice A n c, .int .i64 z, lineV a x, .string (bs s)] w fun e w' => e = .returned (.bool true) ∧ Calm w w' := by
  have hsz := bs_size s
  obtain ⟨κ, h0⟩ : ∃ κ, x.kind = κ := ⟨_, rfl⟩
  obtain ⟨np, h1⟩ : ∃ npp, x.path.parts.length = npp := ⟨_, rfl⟩
  obtain ⟨nf, h2⟩ : ∃ nf, x.frm.parts.length = nf := ⟨_, rfl⟩
  obtain ⟨rp, h3⟩ : ∃ rp, x.path.rest = rp := ⟨_, rfl⟩
  obtain ⟨rf, h4⟩ : ∃ rf, x.frm.rest = rf := ⟨_, rfl⟩
  unfold lineV
  rw [h0, h1, h2, h3, h4]
  obtain ⟨w1, hw1⟩ : ∃ w1, w1 = w.alloc (.cells #[.int .i64 κ, .slice a.AL np a.cl, .bool rp, .slice a.AR nf a.cr, .bool rf] 35) := ⟨_, rfl⟩
  have hc1 : Calm w w1 := by rw [hw1]; exact (Calm.refl w).alloc _
  have hbox : BoxL w1 w.heap.size a κ np nf rp rf := by rw [hw1]; exact BoxL.new w a κ np nf rp rf
  have KA : Hid (∀ W, Calm w W → Calls Tryd.prog 10 #[] W fun e w' => e = .returned (.bool true) ∧ Calm W w') := fun W hW => awakeS_c W (hM.calm hW)
  have HW := Lib.hid hw1
  have HC1 := Lib.hid hc1
  have HB := Lib.hid hbox
  have HX := Lib.hid (And.intro h0 (And.intro h1 (And.intro h2 (And.intro h3 h4))))
  have HV := Lib.hid hv
  have HN := Lib.hid hn
  have HM := Lib.hid hM
  have HRx := Lib.hid hx
  clear hw1 hc1 hbox h0 h1 h2 h3 h4 hv hn hM hx
  by_cases hz0 : z < 0
  · go_enter Tryd.func5, Tryd.ntmps5
    go_wp2_with (go_at_call 10; rw [← HW.out]; refine (KA.out w1 HC1.out).mono ?_; rintro e w2 ⟨rfl, hc2⟩)
    go_ret
    exact ⟨rfl, HC1.out.trans hc2⟩
  · obtain ⟨i, rfl⟩ : ∃ i : Nat, z = i := ⟨z.toNat, by omega⟩
    by_cases hin : i < n
    · by_cases h200 : 200 < s.length
      · go_enter Tryd.func5, Tryd.ntmps5
        go_wp2_with (go_at_call 10; rw [← HW.out]; refine (KA.out w1 HC1.out).mono ?_; rintro e w2 ⟨rfl, hc2⟩)
        go_ret
        exact ⟨rfl, HC1.out.trans hc2⟩
      · obtain ⟨lT, hTs, hTu, hTr⟩ := (HV.out.calm HC1.out).places
        have hTl : lT.length = n := by rw [← HN.out, ← hTs, List.length_map]
        have HT := Lib.hid (And.intro hTs (And.intro hTu (And.intro hTr hTl)))
        clear hTs hTu hTr hTl
        go_enter Tryd.func5, Tryd.ntmps5
        go_wp2_with (at_builtin; rw [← HW.out]; refine wpList_append_xs (enc := encT) (K := 3) (T := 38) Tryd.underlying22 info_strm rfl (by decide) (by decide) encT_len encT_one rfl _ (.tmp 34) rfl w1 _ [] lT rfl (OwnX.nil (Calm.refl _)) A n c rfl HT.out.2.2.2 HT.out.2.2.1 (by simp; omega) ?_; intro v4 w4 hown4 hgr4)
        rw [List.nil_append] at hown4
        rcases hown4.row encT_len with ⟨_, h0⟩ | ⟨g, c4, rfl, hgc, hgc2, hgB, hgr⟩
        · exfalso
          have := HT.out.2.2.2
          rw [h0] at this
          simp at this
          omega
        rw [HT.out.2.2.2] at hgc ⊢
        have HO4 := Lib.hid hown4
        have HG := Lib.hid (And.intro hgr hgB)
        have hc4 : Calm w1 w4 := hown4.calm
        obtain ⟨y, hy⟩ : ∃ y, lT[i]? = some y := ⟨_, List.getElem?_eq_getElem (by rw [HT.out.2.2.2]; exact hin)⟩
        obtain ⟨b, o, rfl, hb, hk⟩ := HT.out.2.2.1 (fun e => by rw [e] at hy; simp at hy)
        have a0 := hk i y hy 0 _ rfl
        have a1 := hk i y hy 1 _ rfl
        have a2 := hk i y hy 2 _ rfl
        rw [Nat.add_zero] at a0
        have hsu := HT.out.2.1 y (List.mem_of_getElem? hy)
        have hr : ss[i]? = some y.s := by rw [← HT.out.1, List.getElem?_map, hy]; rfl
        obtain ⟨PA, hPA⟩ : ∃ PA, y.A = PA := ⟨_, rfl⟩
        obtain ⟨pc, hpc⟩ : ∃ pc, y.c = pc := ⟨_, rfl⟩
        obtain ⟨pa, hpa⟩ : ∃ pa, y.s.parent = pa := ⟨_, rfl⟩
        obtain ⟨nm, hnm⟩ : ∃ nm, y.s.name = nm := ⟨_, rfl⟩
        obtain ⟨pn, hpn⟩ : ∃ pn, y.s.paths.length = pn := ⟨_, rfl⟩
        obtain ⟨lL, hLs, hLu, hLr⟩ := hsu.lines.places
        have hLl : lL.length = pn := by rw [← hpn, ← hLs, List.length_map]
        have hpnl := hpb y.s (List.mem_of_getElem? hr)
        rw [hpn] at hpnl
        rw [hPA] at hLr
        have HL := Lib.hid (And.intro hLs (And.intro hLu (And.intro hLr hLl)))
        have hst := strm_at hr
        have hnml := hsu.name
        rw [hnm] at a0 hnml
        rw [hpa] at a1
        rw [hPA, hpn, hpc] at a2
        have HS := Lib.hid (And.intro hst (And.intro hnm (And.intro hpa (And.intro hr (And.intro hy (And.intro a0 (And.intro a1 hb)))))))
        have HC4 := Lib.hid hc4
        have HF : Hid (∀ W, Calm w4 W → W.cell? ⟨b, o + i * 3 + 2, none⟩ = some (.slice PA pn pc) ∧ W.cell? ⟨w.heap.size, 0, none⟩ = some (.int .i64 κ) ∧ W.cell? ⟨w.heap.size, 1, none⟩ = some (.slice a.AL np a.cl) ∧ W.cell? ⟨w.heap.size, 2, none⟩ = some (.bool rp) ∧ W.cell? ⟨w.heap.size, 3, none⟩ = some (.slice a.AR nf a.cr) ∧ W.cell? ⟨w.heap.size, 4, none⟩ = some (.bool rf)) := fun W hW => by
          have h := (HB.out.calm HC4.out).calm hW
          exact ⟨Calm.at_ (HC4.out.trans hW) a2 hb, h.c0, h.c1, h.c2, h.c3, h.c4⟩
        have HF1 : Hid (∀ W, Calm w1 W → W.cell? ⟨b, o + i * 3 + 2, none⟩ = some (.slice PA pn pc) ∧ W.cell? ⟨w.heap.size, 0, none⟩ = some (.int .i64 κ) ∧ W.cell? ⟨w.heap.size, 1, none⟩ = some (.slice a.AL np a.cl) ∧ W.cell? ⟨w.heap.size, 2, none⟩ = some (.bool rp) ∧ W.cell? ⟨w.heap.size, 3, none⟩ = some (.slice a.AR nf a.cr) ∧ W.cell? ⟨w.heap.size, 4, none⟩ = some (.bool rf)) := fun W hW => by
          have h := HB.out.calm hW
          exact ⟨Calm.at_ hW a2 hb, h.c0, h.c1, h.c2, h.c3, h.c4⟩
        have hsomeg : Hid (∀ W, Calm w4 W → W.cell? ⟨g, i * 3 + 2, none⟩ = some (.slice PA pn pc) ∧ W.frozen? ⟨g, i * 3 + 2, none⟩ = false) := fun W hW => by
          have h1 := HG.out.1.calm hW
          have h2 := h1.cell i y HS.out.2.2.2.2.1 2 _ rfl
          rw [Nat.zero_add, hPA, hpn, hpc] at h2
          exact ⟨h2, h1.free _⟩
        clear hown4 hgr4 hgr hsu hnm hpa hpn hPA hpc hLs hLu hLr hLl hst hr hy hk a0 a1 a2 hc4
        go_wp2_with fail
        go_region_held3 (fun W => W.cell? ⟨b, o + i * 3 + 2, none⟩ = some (.slice PA pn pc) ∧ W.cell? ⟨w.heap.size, 0, none⟩ = some (.int .i64 κ) ∧ W.cell? ⟨w.heap.size, 1, none⟩ = some (.slice a.AL np a.cl) ∧ W.cell? ⟨w.heap.size, 2, none⟩ = some (.bool rp) ∧ W.cell? ⟨w.heap.size, 3, none⟩ = some (.slice a.AR nf a.cr) ∧ W.cell? ⟨w.heap.size, 4, none⟩ = some (.bool rf))
          (first
            | exact HF.out _ (Below.drew (Calm.refl _))
            | exact HF.out _ (Below.drew ((Calm.refl _).alloc _))
            | exact HF.out _ hcy
            | exact HF.out _ hcx
            | exact HF.out _ (hcx.alloc _)
            | exact HF1.out _ (Below.setCell (HC4.out.trans hcy) (p := ⟨g, i * 3 + 2, none⟩) HG.out.2 _)
            | go_keep)
          (first
            | (refine step_append_xs (enc := encL) (K := 5) (T := 35) Tryd.underlying36 info_line rfl (by decide) (by decide) encL_len encL_one rfl _ (.tmp 42) rfl _ (.slice none 0 0) [] lL (by simp [Act.eval, Act.put]) (OwnX.nil (Calm.refl _)) PA pn pc (by simp [Act.eval, Act.put]) HL.out.2.2.2 ((HL.out.2.2.1.calm HC4.out).calm (by first | exact Below.drew (Calm.refl _) | exact Below.drew ((Calm.refl _).alloc _))) (by simp; omega) ?_; intro v7 w7 hown70 hgr7; rw [List.nil_append] at hown70; obtain ⟨A7, c7, hv7⟩ := hown70.len_shape; rw [HL.out.2.2.2] at hv7; subst hv7; (first | have hRd : ReadX encL 5 w7 (some ⟨w4.heap.size, 0, none⟩) [⟨a, x⟩] := ((read_newL2 a x rfl HX.out.1 HX.out.2.1 HX.out.2.2.1 HX.out.2.2.2.1 HX.out.2.2.2.2).calm (Below.drew (Calm.refl _))).calm hown70.calm | skip); have hown7 : OwnX encL 5 35 w4 w7 (.slice A7 pn c7) lL := hown70.base (by first | exact Below.drew (Calm.refl _) | exact Below.drew ((Calm.refl _).alloc _)); have hcx : Calm w4 w7 := hown7.calm)
            | (refine step_append_xs (enc := encL) (K := 5) (T := 35) Tryd.underlying36 info_line rfl (by decide) (by decide) encL_len encL_one rfl (.tmp 43) (.tmp 45) rfl w4 (.slice A7 pn c7) lL [⟨a, x⟩] (by simp [Act.eval, Act.put]) (hown7.to (by first | exact Calm.refl _ | exact (Calm.refl _).alloc _)) _ 1 1 rfl rfl (by first | exact hRd | exact read_newL2 a x rfl HX.out.1 HX.out.2.1 HX.out.2.2.1 HX.out.2.2.2.1 HX.out.2.2.2.2) (by rw [HL.out.2.2.2]; omega) ?_; intro v8 w8 hown8 hgr8; obtain ⟨A8, c8, hv8⟩ := hown8.len_shape; rw [List.length_append, HL.out.2.2.2, List.length_singleton] at hv8; subst hv8; have hcy : Calm w4 w8 := hown8.calm; obtain ⟨hs1, hs2⟩ := hsomeg.out w8 hcy))
        all_goals
          have hlen9 : (lL ++ [(⟨a, x⟩ : NewL)]).length = pn + 1 := by rw [List.length_append, HL.out.2.2.2]; rfl
          have hmore := more_strms (i := i) (n := n) (x := x) (lL := lL ++ [(⟨a, x⟩ : NewL)]) HT.out.1 HT.out.2.1 HG.out.1 HG.out.2 HC4.out HS.out.2.2.2.2.1 (by rw [List.map_append, HL.out.1]; rfl) (fun z hz => by
            rcases List.mem_append.1 hz with h | h
            · exact HL.out.2.1 z h
            · rw [List.mem_singleton] at h
              subst h
              exact HRx.out.calm HC1.out) (by rw [hlen9]; exact hown8) (by rw [hlen9]; omega) (by rw [HT.out.2.2.2]; omega)
          rw [hlen9] at hmore
          obtain ⟨W9, hW9⟩ : ∃ W9, W9 = w8.setCell ⟨g, i * 3 + 2, none⟩ (.slice A8 (pn + 1) c8) := ⟨_, rfl⟩
          rw [← hW9] at hmore ⊢
          obtain ⟨hsm9, hc9⟩ := hmore
          clear hW9 hs1 hs2 hcy hown8 hgr8 hcx hown7 hgr7 hown70 hlen9
          have hnl : (addLine ss i x).length = n := by rw [addLine_len, HN.out]
          have hio : i < ss.length := by rw [HN.out]; exact hin
          have hnm9 : (strm (addLine ss i x) i).name = nm := by rw [addLine_name hio, HS.out.1, HS.out.2.1]
          have HMo := Lib.hid hsm9
          have HC9 := Lib.hid hc9
          have HCW : Hid (Calm w W9) := HC1.out.trans hc9
          have HNl := Lib.hid hnl
          have HNm9 := Lib.hid hnm9
          have HIo := Lib.hid hio
          have HV9 : Hid (StrmsU W9 (some ⟨b, o, none⟩) ss) := HV.out.calm HCW.out
          have HCe : Hid (∀ W, Calm W9 W → W.cell? ⟨b, o + i * 3, none⟩ = some (.string (bs nm)) ∧ W.cell? ⟨b, o + i * 3 + 1, none⟩ = some (.string (bs pa))) := fun W hW => ⟨Calm.at_ (HC9.out.trans hW) HS.out.2.2.2.2.2.1 HS.out.2.2.2.2.2.2.2, Calm.at_ (HC9.out.trans hW) HS.out.2.2.2.2.2.2.1 HS.out.2.2.2.2.2.2.2⟩
          have HBx : Hid (∀ W, Calm W9 W → BoxL W w.heap.size a κ np nf rp rf) := fun W hW => HB.out.calm (HC9.out.trans hW)
          have KC : Hid (∀ W, Calm W9 W → Calls Tryd.prog 12 #[.slice (some ⟨g, 0, none⟩) n c4] W fun e w' => e = .returned (.tuple #[.int .i64 ((strErr (addLine ss i x)).1 : Nat), .int .i64 (strErr (addLine ss i x)).2]) ∧ Calm W w') := fun W hW => strcheck_c (addLine ss i x) (some ⟨g, 0, none⟩) n c4 W (HMo.out.calm hW) HNl.out
          clear hsm9 hc9 hnl hnm9 hio
          obtain ⟨e1, he1⟩ : ∃ e1, (strErr (addLine ss i x)).1 = e1 := ⟨_, rfl⟩
          obtain ⟨e2, he2⟩ : ∃ e2, (strErr (addLine ss i x)).2 = e2 := ⟨_, rfl⟩
          rw [he1, he2] at KC
          have HE2 := Lib.hid he2
          clear he1 he2
          by_cases h2 : e2 = 0
          · subst h2
            have hg : Sy.Good (addLine ss i x) := good_iff.1 HE2.out
            have HGd := Lib.hid hg
            obtain ⟨y2, hy2⟩ : ∃ y2, smallS (addLine ss i x) = y2 := ⟨_, rfl⟩
            have KS : Hid (∀ W, Calm W9 W → Calls Tryd.prog 9 #[.slice (some ⟨g, 0, none⟩) n c4] W fun e w' => e = .returned (.bool y2) ∧ Calm W w') := fun W hW => smallS_c (addLine ss i x) y2 _ n c4 W (HMo.out.calm hW) HNl.out hy2
            have HY2 := Lib.hid hy2
            clear hg hy2
            cases y2 with
            | false =>
              go_wp2_with (first
                | (go_at_call 12; refine (KC.out W9 (Calm.refl _)).mono ?_; rintro e w2 ⟨rfl, hc2⟩)
                | (go_at_call 9; refine (KS.out w2 hc2).mono ?_; rintro e w3 ⟨rfl, hc3⟩)
                | (go_at_call 10; refine (KA.out w3 (HCW.out.trans (hc2.trans hc3))).mono ?_; rintro e w5 ⟨rfl, hc5⟩))
              go_ret
              exact ⟨rfl, HCW.out.trans (hc2.trans (hc3.trans hc5))⟩
            | true =>
              have hsml := (smallS_small HY2.out).1
              obtain ⟨hsm0, hsmx⟩ := addLine_small HIo.out hsml
              have HSM := Lib.hid hsml
              have HSM0 := Lib.hid hsm0
              have HSMx := Lib.hid hsmx
              clear hsml hsm0 hsmx
              cases pa with
              | cons p0 pt =>
                have hpe : (p0 :: pt).isEmpty = false := rfl
                obtain ⟨pa, hpa⟩ : ∃ pa, p0 :: pt = pa := ⟨_, rfl⟩
                rw [hpa] at hpe HCe
                clear hpa
                go_wp2_with (first
                  | (go_at_call 12; refine (KC.out W9 (Calm.refl _)).mono ?_; rintro e w2 ⟨rfl, hc2⟩)
                  | (go_at_call 9; refine (KS.out w2 hc2).mono ?_; rintro e w3 ⟨rfl, hc3⟩; obtain ⟨z0, z1⟩ := HCe.out w3 (hc2.trans hc3))
                  | (go_at_call 10; refine (KA.out w3 (HCW.out.trans (hc2.trans hc3))).mono ?_; rintro e w5 ⟨rfl, hc5⟩))
                go_ret
                exact ⟨rfl, HCW.out.trans (hc2.trans (hc3.trans hc5))⟩
              | nil =>
                have e0 : bs [] = ⟨#[]⟩ := rfl
                rw [e0] at HCe
                have hmain : (strm ss i).parent = [] := by rw [HS.out.1, HS.out.2.2.1]
                have K1 : Hid (∀ W, Calm W9 W → Calls Tryd.prog 11 #[.slice (some ⟨g, 0, none⟩) n c4, .string (bs nm), .string (bs s)] W fun e w' => e = .returned (.tuple #[.int .i64 (locI (addLine ss i x) i s).1, .string (bs (locI (addLine ss i x) i s).2), .int .i64 0]) ∧ Calm W w') := fun W hW => by
                  have := locate_c (addLine ss i x) nm s _ n c4 W (HMo.out.calm hW) HNl.out hnml (by omega) HSM.out (HM.out.calm (HCW.out.trans hW))
                  have h3 := locE_good HGd.out (i := i) (by rw [HNl.out]; exact hin) s
                  rw [HNm9.out] at h3
                  rw [h3] at this
                  exact this
                have K2 : Hid (∀ W, Calm W9 W → Calls Tryd.prog 11 #[.slice (some ⟨b, o, none⟩) n c, .string (bs nm), .string (bs s)] W fun e w' => e = .returned (.tuple #[.int .i64 (locI ss i s).1, .string (bs (locI ss i s).2), .int .i64 0]) ∧ Calm W w') := fun W hW => by
                  have := locate_c ss nm s _ n c W (HV9.out.calm hW) HN.out hnml (by omega) HSM0.out (HM.out.calm (HCW.out.trans hW))
                  have h3 := locE_good (addLine_good HIo.out HGd.out) HIo.out s
                  rw [HS.out.1, HS.out.2.1] at h3
                  rw [h3] at this
                  exact this
                obtain ⟨y3, hy3⟩ : ∃ y3, matchS x.path s = y3 := ⟨_, rfl⟩
                have K3 : Hid (∀ W, Calm W9 W → Calls Tryd.prog 14 #[.agg #[.slice a.AL np a.cl, .bool rp], .string (bs s)] W fun e w' => (∃ A' n' c', e = .returned (.tuple #[.slice A' n' c', .bool y3])) ∧ Calm W w') := fun W hW => by
                  have hru := HRx.out.calm (HCW.out.trans hW)
                  have := rmatch_z x.path s y3 a.AL a.cl W (by omega) (hru.lr.toR (by have := HSMx.out.lp; show x.path.parts.length ≤ _; exact Nat.le_trans this (by decide)) (fun l hl => by have := HSMx.out.ls l hl; omega)) hru.lroom hru.lcap (HM.out.calm (HCW.out.trans hW)) hy3
                  rw [HX.out.2.1, HX.out.2.2.2.1] at this
                  exact this
                obtain ⟨k, hk⟩ : ∃ k, (locI (addLine ss i x) i s).1 = k := ⟨_, rfl⟩
                obtain ⟨t, ht⟩ : ∃ t, (locI (addLine ss i x) i s).2 = t := ⟨_, rfl⟩
                cases y3 with
                | true =>
                  have hkk := locI_last_hit HIo.out HGd.out hmain hy3
                  rw [hk, HX.out.1] at hkk
                  rw [hk, ht] at K1
                  clear hk ht hy3 hmain
                  by_cases h4 : κ = 4
                  · subst h4
                    rw [if_pos rfl] at hkk
                    subst hkk
                    go_wp2_with (first
                      | (go_at_call 12; refine (KC.out W9 (Calm.refl _)).mono ?_; rintro e w2 ⟨rfl, hc2⟩)
                      | (go_at_call 9; refine (KS.out w2 hc2).mono ?_; rintro e w3 ⟨rfl, hc3⟩; obtain ⟨z0, z1⟩ := HCe.out w3 (hc2.trans hc3))
                      | (go_at_call 11; refine (K1.out w3 (hc2.trans hc3)).mono ?_; rintro e w5 ⟨rfl, hc5⟩; have hb5 := HBx.out w5 (hc2.trans (hc3.trans hc5)); have q1 := hb5.c1; have q2 := hb5.c2)
                      | (go_at_call 14; refine (K3.out w5 (hc2.trans (hc3.trans hc5))).mono ?_; rintro e w6 ⟨⟨A6, n6, c6, rfl⟩, hc6⟩; have q0 := (HBx.out w6 (hc2.trans (hc3.trans (hc5.trans hc6)))).c0)
                      | (go_at_call 10; refine (KA.out w6 (HCW.out.trans (hc2.trans (hc3.trans (hc5.trans hc6))))).mono ?_; rintro e w7 ⟨rfl, hc7⟩))
                    go_ret
                    exact ⟨rfl, HCW.out.trans (hc2.trans (hc3.trans (hc5.trans (hc6.trans hc7))))⟩
                  · rw [if_neg h4] at hkk
                    subst hkk
                    have hb4 : (k == 4) = false := by simpa using h4
                    have hb4n : (k != 4) = true := by simpa using h4
                    go_wp2_with (first
                      | (go_at_call 12; refine (KC.out W9 (Calm.refl _)).mono ?_; rintro e w2 ⟨rfl, hc2⟩)
                      | (go_at_call 9; refine (KS.out w2 hc2).mono ?_; rintro e w3 ⟨rfl, hc3⟩; obtain ⟨z0, z1⟩ := HCe.out w3 (hc2.trans hc3))
                      | (go_at_call 11; refine (K1.out w3 (hc2.trans hc3)).mono ?_; rintro e w5 ⟨rfl, hc5⟩; have hb5 := HBx.out w5 (hc2.trans (hc3.trans hc5)); have q1 := hb5.c1; have q2 := hb5.c2)
                      | (go_at_call 14; refine (K3.out w5 (hc2.trans (hc3.trans hc5))).mono ?_; rintro e w6 ⟨⟨A6, n6, c6, rfl⟩, hc6⟩; have q0 := (HBx.out w6 (hc2.trans (hc3.trans (hc5.trans hc6)))).c0)
                      | (go_at_call 10; refine (KA.out w6 (HCW.out.trans (hc2.trans (hc3.trans (hc5.trans hc6))))).mono ?_; rintro e w7 ⟨rfl, hc7⟩))
                    go_ret
                    exact ⟨rfl, HCW.out.trans (hc2.trans (hc3.trans (hc5.trans (hc6.trans hc7))))⟩
                | false =>
                  rw [← locI_last_miss HIo.out HGd.out hmain hy3, hk, ht] at K2
                  rw [hk, ht] at K1
                  clear hk ht hy3 hmain
                  go_wp2_with (first
                    | (go_at_call 12; refine (KC.out W9 (Calm.refl _)).mono ?_; rintro e w2 ⟨rfl, hc2⟩)
                    | (go_at_call 9; refine (KS.out w2 hc2).mono ?_; rintro e w3 ⟨rfl, hc3⟩; obtain ⟨z0, z1⟩ := HCe.out w3 (hc2.trans hc3))
                    | (go_at_call_of 11 (Value.slice (some ⟨g, 0, none⟩) n c4); refine (K1.out w3 (hc2.trans hc3)).mono ?_; rintro e w5 ⟨rfl, hc5⟩; have hb5 := HBx.out w5 (hc2.trans (hc3.trans hc5)); have q1 := hb5.c1; have q2 := hb5.c2)
                    | (go_at_call 14; refine (K3.out w5 (hc2.trans (hc3.trans hc5))).mono ?_; rintro e w6 ⟨⟨A6, n6, c6, rfl⟩, hc6⟩; obtain ⟨y0, y1⟩ := HCe.out w6 (hc2.trans (hc3.trans (hc5.trans hc6))))
                    | (go_at_call_of 11 (Value.slice (some ⟨b, o, none⟩) n c); refine (K2.out w6 (hc2.trans (hc3.trans (hc5.trans hc6)))).mono ?_; rintro e w7 ⟨rfl, hc7⟩)
                    | (go_at_call 10; refine (KA.out w7 (HCW.out.trans (hc2.trans (hc3.trans (hc5.trans (hc6.trans hc7)))))).mono ?_; rintro e w8 ⟨rfl, hc8⟩))
                  go_ret
                  exact ⟨rfl, HCW.out.trans (hc2.trans (hc3.trans (hc5.trans (hc6.trans (hc7.trans hc8)))))⟩
          · have hb2 : (e2 != 0) = true := by simpa using h2
            clear h2
            go_wp2_with (first
              | (go_at_call 12; refine (KC.out W9 (Calm.refl _)).mono ?_; rintro e w2 ⟨rfl, hc2⟩)
              | (go_at_call 10; refine (KA.out w2 (HCW.out.trans hc2)).mono ?_; rintro e w5 ⟨rfl, hc5⟩))
            go_ret
            exact ⟨rfl, HCW.out.trans (hc2.trans hc5)⟩
    · go_enter Tryd.func5, Tryd.ntmps5
      go_wp2_with (go_at_call 10; rw [← HW.out]; refine (KA.out w1 HC1.out).mono ?_; rintro e w2 ⟨rfl, hc2⟩)
      go_ret
      exact ⟨rfl, HC1.out.trans hc2⟩
end Go.Proofs.YtlmclpbkhhgekaaDoor
