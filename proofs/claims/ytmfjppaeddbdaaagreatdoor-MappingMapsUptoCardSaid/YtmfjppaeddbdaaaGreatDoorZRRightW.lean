/- Walk: the reference's Right. -/
import Derived.Deep.DeepCutAuto
import Derived.Deep.RegionHeld3
import Derived.Test.YtmfjppaeddbdaaaGreatDoorZRegB
import Derived.Test.YtmfjppaeddbdaaaGreatDoorZRefW
import Derived.Test.YtmfjppaeddbdaaaGreatDoorZPatsB
import Derived.Test.YtmfjppaeddbdaaaGreatDoorZBind2
import Derived.Test.YtmfjppaeddbdaaaGreatDoorZSubW
import Derived.Test.YtmfjppaeddbdaaaGreatDoorZNarW
import Derived.Test.YtmfjppaeddbdaaaGreatDoorZRSub
import Derived.Test.YtmfjppaeddbdaaaGreatDoorZRMeetY
import Derived.Test.YtmfjppaeddbdaaaGreatDoorZRightW
import Derived.Test.YtmfjppaeddbdaaaGreatDoorZRSimpW
set_option linter.unusedVariables false
set_option linter.unusedSimpArgs false
namespace Go.Proofs.YtmfjppaeddbdaaaGreatDoor
open Go Go.RowKit Sy

theorem newS_one (w : World) (z : Str) (hz : z.length ≤ 1048576) : NewS (w.alloc (.cells #[.string (bs z)] 9)) w.heap.size (some ⟨w.heap.size, 0, none⟩) 1 [z] :=
  (encS_own w z).strsU (by simp) (fun l hl => by rw [List.mem_singleton] at hl; subst hl; exact hz)
theorem cap1_suf {x y : Str} (hs : isStar x = true) (h : inside y x = true) : x.tail.length ≤ y.length := by
  have hx : x ≠ [] := fun e => by rw [e] at hs; cases hs
  have hm := inside_mt h hx
  have h1 := ((mtch_star_iff hs).1 hm).1
  exact h1.length_le

set_option maxRecDepth 100000 in
set_option maxHeartbeats 8000000 in
theorem rbind_c (p q : Pat) (n m c c' : Nat) (re rf : Bool) (A A' : Option Addr) (w : World) (hp : PatA w A c p) (hq : PatA w A' c' q) (ep : patErr p = 0) (eq : patErr q = 0) (hn : p.parts.length = n) (hm : q.parts.length = m) (hre : p.rest = re) (hrf : q.rest = rf) (hin : insideP q p = true) :
    Calls Tryz.prog 83 #[.agg #[.slice A n c, .bool re], .agg #[.slice A' m c', .bool rf]] w fun e w' => (∃ A2 c2, e = .returned (.tuple #[.slice A2 (bindP p q).length c2, .bool true]) ∧ BindsR w' A2 (bindP p q) ∧ (bindP p q).length ≤ c2 ∧ c2 ≤ 9223372036854775807) ∧ Calm w w' := by
  have hnl := hp.r.len
  have hml := hq.r.len
  rw [hn] at hnl
  rw [hm] at hml
  obtain ⟨hnm, hir⟩ := insideP_inR hin
  rw [hn, hm] at hnm
  have hm0 : 0 < m := by have := (patErr_form eq).1; omega
  obtain ⟨w1, hw1⟩ : ∃ w1, w1 = (w.alloc (.cells #[.slice A n c, .bool re] 40)).alloc (.cells #[.slice A' m c', .bool rf] 40) := ⟨_, rfl⟩
  have hc1 : Calm w w1 := by rw [hw1]; exact ((Calm.refl w).alloc _).alloc _
  have hbox : BoxP w1 w.heap.size A n c re A' m c' rf := by
    rw [hw1]
    exact ⟨by simp, by simp [go_sem], by simp [go_sem], by simp [go_sem], by simp [go_sem]⟩
  have KWi : Hid (∀ W, Calm w1 W → Calls Tryz.prog 75 #[.agg #[.slice A' m c', .bool rf], .agg #[.slice A n c, .bool re]] W fun e w' => e = .returned (.bool true) ∧ Calm W w') := fun W hW => rwithin_c q p true m n c' c rf re A' A W ((hq.calm hc1).calm hW) ((hp.calm hc1).calm hW) eq ep hm hn hrf hre hin
  have hin2 : ∀ j, j < n → inside (pAt q j) (pAt p j) = true := fun j hj => ((insideP_iff (allOk_of eq)).1 hin).2 j
  have hok : ∀ x ∈ p.parts, partOk x = true := allOk_of ep
  have HIn := Lib.hid hin2
  have HOk := Lib.hid hok
  have HW := Lib.hid hw1
  have HC := Lib.hid hc1
  have HB := Lib.hid hbox
  have HN := Lib.hid (And.intro hn (And.intro hm (And.intro hre hrf)))
  have HP := Lib.hid (hp.calm hc1)
  have HQ := Lib.hid (hq.calm hc1)
  clear hw1 hc1 hbox hn hm hre hrf hp hq ep eq hin hir hin2 hok
  go_enter Tryz.func83, Tryz.ntmps83
  go_wp2_with (go_at_call 75; rw [← HW.out]; refine (KWi.out w1 (Calm.refl _)).mono ?_; rintro e w2 ⟨rfl, hc2⟩; have b2 := HB.out.calm hc2; have x0 := b2.x0)
  have HC2 := Lib.hid hc2
  clear hc2 KWi b2
  go_loopw [6, 19] (fun v u wr => ∃ (k : Nat) (ys : List NewP), k ≤ n ∧ u = .int .i64 k ∧ Hid (OwnX encP 2 140 w2 wr v ys) ∧ Hid (ys.map (·.p) = (capsTo p q.parts k).map (fun c => (⟨[c], false⟩ : Pat))) ∧ Hid (∀ y ∈ ys, SmallN wr w2.heap.size y)) (fun _ u _ => n - (intOf u).toNat)
  case atStart => exact ⟨0, [], Nat.zero_le _, rfl, OwnX.nil (Calm.refl _), (by rfl), fun y hy => by cases hy⟩
  case round =>
    obtain ⟨k, ys, hk, rfl, HO, HCa, HEa⟩ := hrel
    obtain ⟨wq, rfl⟩ : ∃ wq, wq = wr := ⟨_, rfl⟩
    have HCw : Hid (Calm w1 wq) := HC2.out.trans HO.out.calm
    by_cases hlt : k < n
    · obtain ⟨b, ob, x, rfl, hb, hx, hxl, hcx⟩ := (HP.out.calm HCw.out).r.get (k := k) (by rw [HN.out.1]; exact hlt)
      have hxe : x = pAt p k := by
        rw [pAt_get (by rw [HN.out.1]; exact hlt)] at hx
        exact (Option.some.inj hx).symm
      have HXe := Lib.hid hxe
      have hxs := bs_size x
      have hso := starOk_iff (HOk.out x (List.mem_of_getElem? hx))
      obtain ⟨st, hst⟩ : ∃ st, isStar x = st := ⟨_, rfl⟩
      rw [hst] at hso
      have HSt := Lib.hid hst
      clear hx hxe hst
      cases st with
      | false =>
        have KS : Hid (∀ W, Calls Tryz.prog 97 #[.string (bs x)] W fun e w' => e = .returned (.tuple #[.string (bs []), .bool false]) ∧ W = w') := fun W => star_v x false [] W (by omega) hso (by rw [starSuf, hso]; rfl)
        clear hso
        go_wp2_with (go_at_call 97; refine (KS.out _).mono ?_; rintro e w4 ⟨rfl, rfl⟩)
        go_roundw
        case rel => exact ⟨k + 1, ys, by omega, by go_num, HO.out, by show _ = _; rw [capsTo_lit (by rw [← HXe.out]; exact HSt.out)]; exact HCa.out, HEa.out⟩
        case measure => simp [intOf]; omega
      | true =>
        have hkm : k < m := by omega
        obtain ⟨bq, oq, y, rfl, hbq, hy, hyl, hcy⟩ := (HQ.out.calm HCw.out).r.get (k := k) (by rw [HN.out.2.1]; exact hkm)
        have hye : y = q.parts.getD k [] := by
          rw [getD_get (by rw [HN.out.2.1]; exact hkm)] at hy
          exact (Option.some.inj hy).symm
        have hyq : pAt q k = y := by
          rw [hye]
          unfold pAt
          rw [List.getD_eq_getElem?_getD, List.getD_eq_getElem?_getD, List.getElem?_eq_getElem (by rw [HN.out.2.1]; exact hkm)]
          rfl
        have hle := cap1_suf HSt.out (y := y) (by rw [← hyq, HXe.out]; exact HIn.out k hlt)
        obtain ⟨t, ht⟩ : ∃ t, x.tail = t := ⟨_, rfl⟩
        rw [ht] at hle
        have htl : t.length ≤ 16384 := by omega
        have KS : Hid (∀ W, Calls Tryz.prog 97 #[.string (bs x)] W fun e w' => e = .returned (.tuple #[.string (bs t), .bool true]) ∧ W = w') := fun W => star_v x true t W (by omega) hso (by rw [starSuf, hso]; exact ht)
        have HZe : Hid (cap1 (pAt p k) (q.parts.getD k []) = y.take (y.length - t.length)) := by
          show _ = _
          rw [← HXe.out, ← hye]
          unfold cap1
          rw [ht]
        have hxz := bs_take y (y.length - t.length) (by omega)
        obtain ⟨z, hz⟩ : ∃ z, y.take (y.length - t.length) = z := ⟨_, rfl⟩
        rw [hz] at HZe hxz
        have hzl : z.length ≤ 16384 := by rw [← hz, List.length_take]; omega
        have hi : ((y.length : Int) - (t.length : Int)) = ((y.length - t.length : Nat) : Int) := by omega
        have hys := bs_size y
        have hts := bs_size t
        have b2 := HB.out.calm HCw.out
        have y0 := b2.y0
        have hyk : ys.length ≤ k := by
          have := congrArg List.length HCa.out
          rw [List.length_map, List.length_map] at this
          have := capsTo_length p q.parts k
          omega
        clear hso ht hy hye hyq hz b2
        go_wp2_with (first
          | (go_at_call 97; refine (KS.out _).mono ?_; rintro e w4 ⟨rfl, rfl⟩)
          | (at_builtin; refine wpList_append_xs (enc := encP) (K := 2) (T := 140) Tryz.underlying109 info_bind rfl (by decide) (by decide) encP_len encP_one rfl (.tmp 36) (.tmp 46) rfl w2 _ ys [⟨some ⟨wq.heap.size, 0, none⟩, 1, ⟨[z], false⟩⟩] rfl (HO.out.to (((Calm.refl _).alloc _).alloc _)) _ 1 1 rfl rfl (read_newB ⟨some ⟨wq.heap.size, 0, none⟩, 1, ⟨[z], false⟩⟩ (by simp) rfl rfl) (by omega) ?_; intro v7 w7 hown7 hg7))
        go_roundw
        case rel =>
          have ho7 := (HO.out.to (((Calm.refl _).alloc (.cells #[.string (bs z)] 9)).alloc (.cells #[.slice (some ⟨wq.heap.size, 0, none⟩) 1 1, .bool false] 140))).own
          refine ⟨k + 1, ys ++ [⟨some ⟨wq.heap.size, 0, none⟩, 1, ⟨[z], false⟩⟩], by omega, by go_num, Lib.hid hown7, ?_, ?_⟩
          · show _ = _
            rw [capsTo_star (by rw [← HXe.out]; exact HSt.out), List.map_append, List.map_append, HCa.out, HZe.out]
            rfl
          · refine Lib.hid (fun y' hy' => ?_)
            rcases List.mem_append.1 hy' with hy' | hy'
            · exact ((HEa.out y' hy').calm (((Calm.refl _).alloc _).alloc _)).own (by decide) ho7 hg7
            · rw [List.mem_singleton] at hy'
              subst hy'
              have h1 : SmallN (wq.alloc (.cells #[.string (bs z)] 9)) wq.heap.size ⟨some ⟨wq.heap.size, 0, none⟩, 1, ⟨[z], false⟩⟩ := ⟨newS_one wq z (by omega), by show 1 ≤ 16384; decide, fun l hl => by
                obtain rfl : l = z := by simpa using hl
                exact hzl⟩
              exact ((h1.calm ((Calm.refl _).alloc _)).mono HO.out.calm.size).own (by decide) ho7 hg7
        case measure => simp [intOf]; omega
    · obtain rfl : k = n := by omega
      have b2 := HB.out.calm HCw.out
      have x0 := b2.x0
      have x1 := b2.x1
      have y0 := b2.y0
      have y1 := b2.y1
      have hszb := HB.out.size
      clear b2
      cases re with
      | false =>
        have hbs : bindP p q = (capsTo p q.parts k).map (fun c => (⟨[c], false⟩ : Pat)) := by
          unfold bindP
          rw [HN.out.2.2.1, HN.out.1]
          simp
        obtain ⟨A2, c2, rfl, h1, h2, h3⟩ := binds_end HO.out HCa.out (fun y hy => (HEa.out y hy).a)
        rw [← hbs] at h1 h2 ⊢
        have HR := Lib.hid (And.intro h1 (And.intro h2 h3))
        clear h1 h2 h3 hbs
        go_wp2_with fail
        go_ret2
        exact ⟨⟨A2, c2, rfl, HR.out⟩, HC.out.trans HCw.out⟩
      | true =>
        have hbs : bindP p q = (capsTo p q.parts k).map (fun c => (⟨[c], false⟩ : Pat)) ++ [⟨q.parts.drop k, rf⟩] := by
          unfold bindP
          rw [HN.out.2.2.1, HN.out.1, if_pos rfl, HN.out.2.2.2]
        have HBs := Lib.hid hbs
        have hyk : ys.length ≤ k := by
          have := congrArg List.length HCa.out
          rw [List.length_map, List.length_map] at this
          have := capsTo_length p q.parts k
          omega
        obtain ⟨Av, cv, hv⟩ := HO.out.len_shape
        obtain ⟨L, hL⟩ : ∃ L, ys.length = L := ⟨_, rfl⟩
        rw [hL] at hv hyk
        subst hv
        have HLn := Lib.hid hL
        have hqw := HQ.out.calm HCw.out
        have hroom := hqw.room
        have hcap := hqw.cap
        rw [HN.out.2.1] at hroom
        obtain ⟨bq, oq, rfl, hbq, hkq⟩ := hqw.r.at_ (by rw [HN.out.2.1]; exact hm0)
        have HKq := Lib.hid (And.intro hbq hkq)
        have HDl : Hid ((q.parts.drop k).length = m - k) := by
          show _ = _
          rw [List.length_drop, HN.out.2.1]
        have HRd : Hid (∀ W (A5 : Option Addr), Calm wq W → (k < m → A5 = some ⟨bq, oq + k, none⟩) → ReadX encS 1 W A5 (q.parts.drop k)) := fun W A5 hW hA => by
          intro hne
          have hkm : k < m := by
            have : (q.parts.drop k).length ≠ 0 := fun e => hne (List.length_eq_zero_iff.1 e)
            rw [HDl.out] at this
            omega
          refine ⟨bq, oq + k, hA hkm, Nat.lt_of_lt_of_le HKq.out.1 hW.size, fun j x hx i u hu => ?_⟩
          have h0 : i = 0 := by
            have := (List.getElem?_eq_some_iff.1 hu).1
            simp [encS] at this
            omega
          subst h0
          obtain rfl : Value.string (bs x) = u := by simpa [encS] using hu
          rw [List.getElem?_drop] at hx
          have h2 := Calm.at_ hW (HKq.out.2 _ _ hx) HKq.out.1
          have e : oq + k + j * 1 + 0 = oq + (k + j) := by omega
          rw [e]
          exact h2
        have HS : Hid (∀ W, Calm wq W → W.cell? ⟨w.heap.size, 0, none⟩ = some (.slice A k c) ∧ W.cell? ⟨w.heap.size + 1, 0, none⟩ = some (.slice (some ⟨bq, oq, none⟩) m c') ∧ W.cell? ⟨w.heap.size + 1, 1, none⟩ = some (.bool rf)) := fun W hW => by
          have h1 := HCw.out.size
          exact ⟨Calm.at_ hW x0 (by show w.heap.size < _; omega), Calm.at_ hW y0 (by show w.heap.size + 1 < _; omega), Calm.at_ hW y1 (by show w.heap.size + 1 < _; omega)⟩
        have hi1 : (k : Int) ≤ (m : Int) := by omega
        have hi2 : (m : Int) ≤ (c' : Int) := by omega
        have hi3 : (0 : Int) ≤ (k : Int) := by omega
        clear hbs hL hqw hbq hkq
        have hsp : k = c' ∨ ¬ c' = k := by omega
        have HSG : Hid (∀ W W' : World, Calm wq W → W.grownBy W' (Value.slice Av L cv).ownBlock → W'.cell? ⟨w.heap.size, 0, none⟩ = some (.slice A k c) ∧ W'.cell? ⟨w.heap.size + 1, 0, none⟩ = some (.slice (some ⟨bq, oq, none⟩) m c') ∧ W'.cell? ⟨w.heap.size + 1, 1, none⟩ = some (.bool rf)) := fun W W' hW hg => by
          have h1 := HCw.out.size
          have h2 := HC2.out.size
          have hh1 := hg.block w.heap.size (by have := hW.size; omega) (HO.out.far (by omega))
          have hh2 := hg.block (w.heap.size + 1) (by have := hW.size; omega) (HO.out.far (by omega))
          obtain ⟨k0, k1, k2⟩ := HS.out W hW
          exact ⟨(World.cell?_of_block (a := ⟨w.heap.size, 0, none⟩) hh1).trans k0, (World.cell?_of_block (a := ⟨w.heap.size + 1, 0, none⟩) hh2).trans k1, (World.cell?_of_block (a := ⟨w.heap.size + 1, 1, none⟩) hh2).trans k2⟩
        rcases hsp with rfl | hsp
        · obtain rfl : k = m := by omega
          have HD0 : Hid ((q.parts.drop k).length = 0) := by
            show _ = _
            rw [HDl.out, Nat.sub_self]
          go_wp2_with fail
          go_region_held3 (fun W => W.cell? ⟨w.heap.size, 0, none⟩ = some (.slice A k c) ∧ W.cell? ⟨w.heap.size + 1, 0, none⟩ = some (.slice (some ⟨bq, oq, none⟩) k k) ∧ W.cell? ⟨w.heap.size + 1, 1, none⟩ = some (.bool rf))
            (first
              | exact HS.out _ (Calm.refl _)
              | exact HS.out _ (Below.drew (Calm.refl _))
              | exact hHS
              | exact HS.out _ hcx
              | exact HS.out _ (hcx.alloc _)
              | go_keep)
            (first
              | (refine step_append_xs (enc := encS) (K := 1) (T := 9) Tryz.underlying38 info_strS rfl (by decide) (by decide) encS_len encS_one rfl _ (.tmp 57) rfl _ (.slice none 0 0) [] (q.parts.drop k) (by simp [Act.eval, Act.put]) (OwnX.nil (Calm.refl _)) (some ⟨bq, oq, none⟩) 0 0 (by simp [Act.eval, Act.put]) HD0.out (HRd.out _ _ (by first | exact Below.drew (Calm.refl _) | exact Calm.refl _) (fun h => by first | rfl | (exfalso; omega))) (by simp) ?_; intro v7 w7 hown70 hgr7; rw [List.nil_append] at hown70; obtain ⟨A7, c7, hv7⟩ := hown70.len_shape; rw [HD0.out] at hv7; subst hv7; have hown7 : OwnX encS 1 9 wq w7 (.slice A7 0 c7) (q.parts.drop k) := hown70.base (by first | exact Below.drew (Calm.refl _) | exact Calm.refl _); have hcx : Calm wq w7 := hown7.calm)
              | (refine step_append_xs (enc := encP) (K := 2) (T := 140) Tryz.underlying109 info_bind rfl (by decide) (by decide) encP_len encP_one rfl (.tmp 51) (.tmp 62) rfl w2 (.slice Av L cv) ys [⟨A7, c7, ⟨q.parts.drop k, rf⟩⟩] (by simp [Act.eval, Act.put]) (HO.out.to (hcx.alloc _)) _ 1 1 rfl rfl (read_newB ⟨A7, c7, ⟨q.parts.drop k, rf⟩⟩ rfl HD0.out rfl) (by rw [HLn.out]; omega) ?_; intro v8 w8 hown8 hg8; have hcy2 : Calm w2 w8 := hown8.calm; have hHS := HSG.out _ _ (hcx.alloc _) hg8))
          have hsn : SmallN w7 wq.heap.size ⟨A7, c7, ⟨q.parts.drop k, rf⟩⟩ := ⟨hown7.strsU (by rw [HD0.out]; omega) (fun l hl => by have := HQ.out.r.each l (List.mem_of_mem_drop hl); omega), by
            show (q.parts.drop k).length ≤ 16384
            rw [HD0.out]
            omega, fun l hl => HQ.out.r.each l (List.mem_of_mem_drop hl)⟩
          have hps : ∀ y ∈ ys ++ [(⟨A7, c7, ⟨q.parts.drop k, rf⟩⟩ : NewP)], PatA w8 y.A y.c y.p := fun y hy => by
            have ho7 := (HO.out.to (hcx.alloc (.cells #[.slice A7 (0) c7, .bool rf] 140))).own
            rcases List.mem_append.1 hy with hy | hy
            · exact (((HEa.out y hy).calm (hcx.alloc _)).own (by decide) ho7 hg8).a
            · rw [List.mem_singleton] at hy
              subst hy
              exact ((hsn.calm ((Calm.refl _).alloc _)).own (by decide) ho7 hg8).a
          obtain ⟨A2, c2, rfl, h1, h2, h3⟩ := binds_end (bs := bindP p q) hown8 (by rw [HBs.out, List.map_append, HCa.out]; rfl) hps
          have HR := Lib.hid (And.intro h1 (And.intro h2 h3))
          have HC8 : Hid (Calm w w8) := HC.out.trans (HC2.out.trans hown8.calm)
          clear h1 h2 h3 hown8 hg8 hown7 hown70 hgr7 hsn hps hcy2 hHS hcx
          go_wp2_with fail
          all_goals
            go_ret2
            exact ⟨⟨A2, c2, rfl, HR.out⟩, HC8.out⟩
        · go_wp2_with fail
          go_region_held3 (fun W => W.cell? ⟨w.heap.size, 0, none⟩ = some (.slice A k c) ∧ W.cell? ⟨w.heap.size + 1, 0, none⟩ = some (.slice (some ⟨bq, oq, none⟩) m c') ∧ W.cell? ⟨w.heap.size + 1, 1, none⟩ = some (.bool rf))
            (first
              | exact HS.out _ (Calm.refl _)
              | exact HS.out _ (Below.drew (Calm.refl _))
              | exact hHS
              | exact HS.out _ hcx
              | exact HS.out _ (hcx.alloc _)
              | go_keep)
            (first
              | (refine step_append_xs (enc := encS) (K := 1) (T := 9) Tryz.underlying38 info_strS rfl (by decide) (by decide) encS_len encS_one rfl _ (.tmp 57) rfl _ (.slice none 0 0) [] (q.parts.drop k) (by simp [Act.eval, Act.put]) (OwnX.nil (Calm.refl _)) (some ⟨bq, oq + k, none⟩) (m - k) (c' - k) (by simp [Act.eval, Act.put]) HDl.out (HRd.out _ _ (by first | exact Below.drew (Calm.refl _) | exact Calm.refl _) (fun h => by first | rfl | (exfalso; omega))) (by simp; omega) ?_; intro v7 w7 hown70 hgr7; rw [List.nil_append] at hown70; obtain ⟨A7, c7, hv7⟩ := hown70.len_shape; rw [HDl.out] at hv7; subst hv7; have hown7 : OwnX encS 1 9 wq w7 (.slice A7 (m - k) c7) (q.parts.drop k) := hown70.base (by first | exact Below.drew (Calm.refl _) | exact Calm.refl _); have hcx : Calm wq w7 := hown7.calm)
              | (refine step_append_xs (enc := encP) (K := 2) (T := 140) Tryz.underlying109 info_bind rfl (by decide) (by decide) encP_len encP_one rfl (.tmp 51) (.tmp 62) rfl w2 (.slice Av L cv) ys [⟨A7, c7, ⟨q.parts.drop k, rf⟩⟩] (by simp [Act.eval, Act.put]) (HO.out.to (hcx.alloc _)) _ 1 1 rfl rfl (read_newB ⟨A7, c7, ⟨q.parts.drop k, rf⟩⟩ rfl HDl.out rfl) (by rw [HLn.out]; omega) ?_; intro v8 w8 hown8 hg8; have hcy2 : Calm w2 w8 := hown8.calm; have hHS := HSG.out _ _ (hcx.alloc _) hg8))
          have hsn : SmallN w7 wq.heap.size ⟨A7, c7, ⟨q.parts.drop k, rf⟩⟩ := ⟨hown7.strsU (by rw [HDl.out]; omega) (fun l hl => by have := HQ.out.r.each l (List.mem_of_mem_drop hl); omega), by
            show (q.parts.drop k).length ≤ 16384
            rw [HDl.out]
            omega, fun l hl => HQ.out.r.each l (List.mem_of_mem_drop hl)⟩
          have hps : ∀ y ∈ ys ++ [(⟨A7, c7, ⟨q.parts.drop k, rf⟩⟩ : NewP)], PatA w8 y.A y.c y.p := fun y hy => by
            have ho7 := (HO.out.to (hcx.alloc (.cells #[.slice A7 (m - k) c7, .bool rf] 140))).own
            rcases List.mem_append.1 hy with hy | hy
            · exact (((HEa.out y hy).calm (hcx.alloc _)).own (by decide) ho7 hg8).a
            · rw [List.mem_singleton] at hy
              subst hy
              exact ((hsn.calm ((Calm.refl _).alloc _)).own (by decide) ho7 hg8).a
          obtain ⟨A2, c2, rfl, h1, h2, h3⟩ := binds_end (bs := bindP p q) hown8 (by rw [HBs.out, List.map_append, HCa.out]; rfl) hps
          have HR := Lib.hid (And.intro h1 (And.intro h2 h3))
          have HC8 : Hid (Calm w w8) := HC.out.trans (HC2.out.trans hown8.calm)
          clear h1 h2 h3 hown8 hg8 hown7 hown70 hgr7 hsn hps hcy2 hHS hcx
          go_wp2_with fail
          all_goals
            go_ret2
            exact ⟨⟨A2, c2, rfl, HR.out⟩, HC8.out⟩
end Go.Proofs.YtmfjppaeddbdaaaGreatDoor
set_option linter.unusedVariables false
set_option linter.unusedSimpArgs false
namespace Go.Proofs.YtmfjppaeddbdaaaGreatDoor
open Go Go.RowKit Sy

set_option maxHeartbeats 16000000 in
theorem rnleft_c (r : Rule) (p : Pat) (a : Pl) (n pc : Nat) (re : Bool) (A : Option Addr) (w : World) (hr : RuleU w a r) (hs : SmallR r) (hp : PatA w A pc p) (hn : p.parts.length = n) (hre : p.rest = re) :
    Calls Tryz.prog 59 #[ruleV a r, .agg #[.slice A n pc, .bool re]] w fun e w' => NarEnd (narL r p) w.heap.size e w' ∧ Calm w w' := by
  obtain ⟨nl, hnl⟩ : ∃ nl, r.left.parts.length = nl := ⟨_, rfl⟩
  obtain ⟨nr, hnr⟩ : ∃ nr, r.right.parts.length = nr := ⟨_, rfl⟩
  obtain ⟨lr, hlr⟩ : ∃ lr, r.left.rest = lr := ⟨_, rfl⟩
  obtain ⟨rr, hrr⟩ : ∃ rr, r.right.rest = rr := ⟨_, rfl⟩
  obtain ⟨ex, hex⟩ : ∃ ex, r.excl = ex := ⟨_, rfl⟩
  obtain ⟨w1, hw1⟩ : ∃ w1, w1 = ((w.alloc (.cells #[.bool ex, .slice a.AL nl a.cl, .bool lr, .slice a.AR nr a.cr, .bool rr] 59)).alloc (.cells #[.slice A n pc, .bool re] 40)).alloc (.cells #[.bool false, .slice none 0 0, .bool false, .slice none 0 0, .bool false] 59) := ⟨_, rfl⟩
  have hc1 : Calm w w1 := by rw [hw1]; exact (((Calm.refl w).alloc _).alloc _).alloc _
  have hbr : FiveB w1 w.heap.size (.bool ex) (.slice a.AL nl a.cl) (.bool lr) (.slice a.AR nr a.cr) (.bool rr) := by
    rw [hw1]
    exact (FiveB.new w _ _ _ _ _ _).calm (((Calm.refl _).alloc _).alloc _)
  have hbp : TwoB w1 (w.heap.size + 1) (.slice A n pc) (.bool re) := by
    rw [hw1]
    have := (TwoB.new (w.alloc (.cells #[.bool ex, .slice a.AL nl a.cl, .bool lr, .slice a.AR nr a.cr, .bool rr] 59)) (.slice A n pc) (.bool re) 40).calm ((Calm.refl _).alloc (.cells #[.bool false, .slice none 0 0, .bool false, .slice none 0 0, .bool false] 59))
    simpa using this
  have hbz : FiveB w1 (w.heap.size + 1 + 1) (.bool false) (.slice none 0 0) (.bool false) (.slice none 0 0) (.bool false) := by
    rw [hw1]
    have := FiveB.new ((w.alloc (.cells #[.bool ex, .slice a.AL nl a.cl, .bool lr, .slice a.AR nr a.cr, .bool rr] 59)).alloc (.cells #[.slice A n pc, .bool re] 40)) (.bool false) (.slice none 0 0) (.bool false) (.slice none 0 0) (.bool false) 59
    simpa using this
  obtain ⟨v, hv⟩ : ∃ v, ruleErr r = v := ⟨_, rfl⟩
  obtain ⟨u, hu⟩ : ∃ u, patErr p = u := ⟨_, rfl⟩
  have KR : Hid (∀ W, Calm w1 W → Calls Tryz.prog 33 #[.agg #[.bool ex, .slice a.AL nl a.cl, .bool lr, .slice a.AR nr a.cr, .bool rr]] W fun e w' => e = .returned (.int .i64 v) ∧ Calm W w') := fun W hW => by
    have := rrule_c r a W ((hr.calm hc1).calm hW) hs
    unfold ruleV at this
    rw [hnl, hnr, hlr, hrr, hex, hv] at this
    exact this
  have KP : Hid (∀ W, Calm w1 W → Calls Tryz.prog 67 #[.agg #[.slice A n pc, .bool re]] W fun e w' => e = .returned (.int .i64 u) ∧ Calm W w') := fun W hW => by
    have := rcheckG_c p A pc W ((hp.calm hc1).calm hW).r.toG hp.room hp.cap
    rw [hn, hre, hu] at this
    exact this
  have hal : PatA w a.AL a.cl r.left := ⟨hr.left hs, hr.lroom, hr.lcap⟩
  have har : PatA w a.AR a.cr r.right := ⟨hr.right hs, hr.rroom, hr.rcap⟩
  have KM1 : Hid (∀ m, v = 0 → u = 0 → meetP r.left p = some m → ∀ W, Calm w1 W → Calls Tryz.prog 69 #[.agg #[.slice a.AL nl a.cl, .bool lr], .agg #[.slice A n pc, .bool re]] W fun e w' => (∃ A2 c2, e = .returned (.tuple #[.agg #[.slice A2 m.parts.length c2, .bool m.rest], .bool true]) ∧ SmallN w' W.heap.size ⟨A2, c2, m⟩) ∧ Calm W w') := fun m hv0 hu0 hm W hW => by
    have := rmeet_yes r.left p m a.AL A a.cl pc W ((hal.calm hc1).calm hW) ((hp.calm hc1).calm hW) (ruleErr_twin.1 (hv.trans hv0)).lp (hu.trans hu0) hm
    rw [hnl, hlr, hn, hre] at this
    exact this
  have KM0 : Hid (v = 0 → u = 0 → meetP r.left p = none → ∀ W, Calm w1 W → Calls Tryz.prog 69 #[.agg #[.slice a.AL nl a.cl, .bool lr], .agg #[.slice A n pc, .bool re]] W fun e w' => e = .returned (.tuple #[.agg #[.slice none 0 0, .bool false], .bool false]) ∧ Calm W w') := fun hv0 hu0 hm W hW => by
    have := rmeet_no r.left p a.AL A a.cl pc W ((hal.calm hc1).calm hW) ((hp.calm hc1).calm hW) (ruleErr_twin.1 (hv.trans hv0)).lp (hu.trans hu0) hm
    rw [hnl, hlr, hn, hre] at this
    exact this
  have KB : Hid (∀ m, v = 0 → meetP r.left p = some m → ∀ W A2 c2, Calm w1 W → PatA W A2 c2 m → Calls Tryz.prog 83 #[.agg #[.slice a.AL nl a.cl, .bool lr], .agg #[.slice A2 m.parts.length c2, .bool m.rest]] W fun e w' => (∃ A3 c3, e = .returned (.tuple #[.slice A3 (bindP r.left m).length c3, .bool true]) ∧ BindsR w' A3 (bindP r.left m) ∧ (bindP r.left m).length ≤ c3 ∧ c3 ≤ 9223372036854775807) ∧ Calm W w') := fun m hv0 hm W A2 c2 hW hPm =>
    rbind_c r.left m nl m.parts.length a.cl c2 lr m.rest a.AL A2 W ((hal.calm hc1).calm hW) hPm (inner_meet (hv.trans hv0) hm).tw.lp (inner_meet (hv.trans hv0) hm).good hnl rfl hlr rfl (inner_meet (hv.trans hv0) hm).inn
  have KS : Hid (∀ m, v = 0 → meetP r.left p = some m → (∀ x ∈ m.parts, x.length ≤ 16384) → ∀ W LA lc, Calm w1 W → BindsR W LA (bindP r.left m) → (bindP r.left m).length ≤ lc → lc ≤ 9223372036854775807 → Calls Tryz.prog 84 #[.agg #[.slice a.AR nr a.cr, .bool rr], .slice LA (bindP r.left m).length lc] W fun e w' => SubEnd (carryP r.left r.right m) W.heap.size e w' ∧ Calm W w') := fun m hv0 hm hml W LA lc hW hb h1 h2 =>
    rsubst_c r.left r.right m nr _ a.cr lc rr a.AR LA W (inner_meet (hv.trans hv0) hm) ((har.calm hc1).calm hW) hnr hrr hb rfl h1 h2 hml
  have HX1 : Hid (v ≠ 0 → narL r p = (none, v)) := fun h => by
    unfold narL
    rw [hv, if_pos h]
  have HX2 : Hid (v = 0 → u ≠ 0 → narL r p = (none, u)) := fun h h2 => by
    unfold narL
    rw [hv, if_neg (by simpa using h), hu, if_pos h2]
  have HX3 : Hid (v = 0 → u = 0 → meetP r.left p = none → narL r p = (none, 0)) := fun h h2 hm => by
    unfold narL
    rw [hv, if_neg (by simpa using h), hu, if_neg (by simpa using h2), hm]
  have HX4 : Hid (∀ m, v = 0 → u = 0 → meetP r.left p = some m → narL r p = if 12 < (carryP r.left r.right m).parts.length then (none, 43) else (some ⟨false, m, carryP r.left r.right m⟩, 0)) := fun m h h2 hm => by
    unfold narL
    rw [hv, if_neg (by simpa using h), hu, if_neg (by simpa using h2), hm]
  have HW := Lib.hid hw1
  have HC := Lib.hid hc1
  have HBr := Lib.hid hbr
  have HBp := Lib.hid hbp
  have HBz := Lib.hid hbz
  have hsz : w.heap.size + 1 + 1 < w1.heap.size := hbz.lt
  unfold ruleV
  rw [hnl, hnr, hlr, hrr, hex]
  clear hw1 hc1 hbr hbp hbz hr hs hp hn hre hnl hnr hlr hrr hex hv hu hal har
  have HC8 : Hid (∀ W, Calm w1 W → ∀ u0 u1 u2 u3 u4, Calm w (set5 W (w.heap.size + 1 + 1) u0 u1 u2 u3 u4)) := fun W hW u0 u1 u2 u3 u4 => calm5 (HC.out.trans hW) (by omega) _ _ _ _ _
  go_enter Tryz.func59, Tryz.ntmps59
  have b := HBr.out
  have b0 := b.c0
  have b1 := b.c1
  have b2 := b.c2
  have b3 := b.c3
  have b4 := b.c4
  clear b
  go_wp2_with fail
  rw [← HW.out]
  refine (KR.out w1 (Calm.refl _)).mono ?_
  rintro e w2 ⟨rfl, hc2⟩
  clear b0 b1 b2 b3 b4
  have HC2 := Lib.hid hc2
  by_cases hv0 : v = 0
  · subst hv0
    have p0 := (HBp.out.calm hc2).c0
    have p1 := (HBp.out.calm hc2).c1
    clear hc2
    go_wp2_with fail
    refine (KP.out w2 HC2.out).mono ?_
    rintro e w3 ⟨rfl, hc3⟩
    have HC3 : Hid (Calm w1 w3) := HC2.out.trans hc3
    clear p0 p1 hc3
    by_cases hu0 : u = 0
    · subst hu0
      have b := HBr.out.calm HC3.out
      have b1 := b.c1
      have b2 := b.c2
      have p0 := (HBp.out.calm HC3.out).c0
      have p1 := (HBp.out.calm HC3.out).c1
      clear b
      rcases hmm : meetP r.left p with _ | m
      · have HX := Lib.hid (HX3.out (by trivial) (by trivial) hmm)
        have KM := Lib.hid (KM0.out (by trivial) (by trivial) hmm w3 HC3.out)
        clear hmm
        go_wp2_with fail
        refine KM.out.mono ?_
        rintro e w4 ⟨rfl, hc4⟩
        have hz := HBz.out.calm ((HC3.out.trans hc4).alloc (.cells #[.slice none 0 0, .bool false] 40))
        have z0 := hz.c0
        have z1 := hz.c1
        have z2 := hz.c2
        have z3 := hz.c3
        have z4 := hz.c4
        have f0 := hz.fz 0
        have f1 := hz.fz 1
        have f2 := hz.fz 2
        have f3 := hz.fz 3
        have f4 := hz.fz 4
        have HC4 : Hid (Calm w1 w4) := HC3.out.trans hc4
        clear hz hc4 b1 b2 p0 p1
        go_wp2_with fail
        refine bodyPost_ret (v := .tuple #[.agg #[.bool false, .slice none 0 0, .bool false, .slice none 0 0, .bool false], .bool false, .int .i64 0]) ?_ rfl ⟨.inl (by rw [HX.out]; exact ⟨rfl, rfl⟩), HC8.out _ (HC4.out.alloc _) _ _ _ _ _⟩
        rw [results_cell_tt rfl]
        go_simp
      · have hx := HX4.out m (by trivial) (by trivial) hmm
        have KM := Lib.hid (KM1.out m (by trivial) (by trivial) hmm w3 HC3.out)
        have KBm := Lib.hid (KB.out m (by trivial) hmm)
        have KSm := Lib.hid (KS.out m (by trivial) hmm)
        clear hmm
        obtain ⟨cr, hcr⟩ : ∃ cr, carryP r.left r.right m = cr := ⟨_, rfl⟩
        rw [hcr] at hx KSm
        obtain ⟨nb, hnb⟩ : ∃ nb, (bindP r.left m).length = nb := ⟨_, rfl⟩
        rw [hnb] at KBm KSm
        obtain ⟨mn, hmn⟩ : ∃ mn, m.parts.length = mn := ⟨_, rfl⟩
        obtain ⟨mr, hmr⟩ : ∃ mr, m.rest = mr := ⟨_, rfl⟩
        obtain ⟨cn, hcn⟩ : ∃ cn, cr.parts.length = cn := ⟨_, rfl⟩
        obtain ⟨ct, hct⟩ : ∃ ct, cr.rest = ct := ⟨_, rfl⟩
        rw [hmn, hmr] at KM KBm
        have HN := Lib.hid (And.intro hmn (And.intro hmr (And.intro hcn hct)))
        rw [hcn] at hx
        have HX := Lib.hid hx
        clear hx hcr hmn hmr hcn hct hnb
        go_wp2_with fail
        refine KM.out.mono ?_
        rintro e w4 ⟨⟨A2, c2, rfl, hSm⟩, hc4⟩
        clear b1 b2 p0 p1
        have HC5 : Hid (Calm w1 (w4.alloc (.cells #[.slice A2 mn c2, .bool mr] 40))) := (HC3.out.trans hc4).alloc _
        have hm := TwoB.new w4 (.slice A2 mn c2) (.bool mr) 40
        have HSm : Hid (SmallN (w4.alloc (.cells #[.slice A2 mn c2, .bool mr] 40)) w3.heap.size ⟨A2, c2, m⟩) := hSm.calm ((Calm.refl _).alloc _)
        have hsz3 : w1.heap.size ≤ w3.heap.size := HC3.out.size
        have b := HBr.out.calm HC5.out
        have b1 := b.c1
        have b2 := b.c2
        have b3 := b.c3
        have b4 := b.c4
        have m0 := hm.c0
        have m1 := hm.c1
        have HMb := Lib.hid hm
        clear b hm hSm hc4
        go_wp2_with fail
        obtain ⟨w5, hw5⟩ : ∃ w5, w5 = w4.alloc (.cells #[.slice A2 mn c2, .bool mr] 40) := ⟨_, rfl⟩
        rw [← hw5] at HC5 HMb HSm ⊢
        obtain ⟨M, hM⟩ : ∃ M, w4.heap.size = M := ⟨_, rfl⟩
        rw [hM] at HMb
        simp only [hM]
        clear hw5 hM b1 b2 b3 b4 m0 m1
        refine (KBm.out w5 A2 c2 HC5.out HSm.out.a).mono ?_
        rintro e w5b ⟨⟨LA, lc, rfl, hbi, hlc1, hlc2⟩, hc5b⟩
        have HBi := Lib.hid hbi
        have HC5b := Lib.hid hc5b
        have b := HBr.out.calm (HC5.out.trans HC5b.out)
        have b3 := b.c3
        have b4 := b.c4
        clear b hbi hc5b
        go_wp2_with fail
        refine (KSm.out HSm.out.each w5b LA lc (HC5.out.trans HC5b.out) HBi.out hlc1 hlc2).mono ?_
        rintro e w6 ⟨hE, hc6'⟩
        have hc6 : Calm w5 w6 := HC5b.out.trans hc6'
        clear b3 b4 hc6'
        have HC6 : Hid (Calm w5 w6) := hc6
        clear hc6
        rcases hE with ⟨h12, rfl⟩ | ⟨h12, A3, c3, rfl, hN3⟩
        · rw [HN.out.2.2.1] at h12
          have HX2' : Hid (narL r p = (none, 43)) := by
            show _ = _
            rw [HX.out, if_pos h12]
          have hz := HBz.out.calm ((HC5.out.trans HC6.out).alloc (.cells #[.slice none 0 0, .bool false] 40))
          have z0 := hz.c0
          have z1 := hz.c1
          have z2 := hz.c2
          have z3 := hz.c3
          have z4 := hz.c4
          have f0 := hz.fz 0
          have f1 := hz.fz 1
          have f2 := hz.fz 2
          have f3 := hz.fz 3
          have f4 := hz.fz 4
          clear hz h12
          go_wp2_with fail
          refine bodyPost_ret (v := .tuple #[.agg #[.bool false, .slice none 0 0, .bool false, .slice none 0 0, .bool false], .bool false, .int .i64 43]) ?_ rfl ⟨.inl (by rw [HX2'.out]; exact ⟨rfl, rfl⟩), HC8.out _ ((HC5.out.trans HC6.out).alloc _) _ _ _ _ _⟩
          rw [results_cell_tt rfl]
          go_simp
        · rw [HN.out.2.2.1] at h12
          have HX2' : Hid (narL r p = (some ⟨false, m, cr⟩, 0)) := by
            show _ = _
            rw [HX.out, if_neg (by omega)]
          rw [HN.out.2.2.1, HN.out.2.2.2]
          have hsz5 : w1.heap.size ≤ w5b.heap.size := (HC5.out.trans HC5b.out).size
          have HRu : Hid (∀ u0 u1 u2 u3 u4, RuleN (set5 (w6.alloc (.cells #[.slice A3 cn c3, .bool ct] 40)) (w.heap.size + 1 + 1) u0 u1 u2 u3 u4) w.heap.size ⟨A2, c2, A3, c3⟩ ⟨false, m, cr⟩) := fun u0 u1 u2 u3 u4 =>
            ⟨(((HSm.out.calm (HC6.out.alloc _)).new.mono (show w1.heap.size ≤ _ from hsz3)).set5 hsz _ _ _ _ _).mono (by omega), (((hN3.calm ((Calm.refl _).alloc _)).mono (show w1.heap.size ≤ _ from hsz5)).set5 hsz _ _ _ _ _).mono (by omega)⟩
          have hm := HMb.out.calm (HC6.out.alloc (.cells #[.slice A3 cn c3, .bool ct] 40))
          have m0 := hm.c0
          have m1 := hm.c1
          have hn := TwoB.new w6 (.slice A3 cn c3) (.bool ct) 40
          have n0 := hn.c0
          have n1 := hn.c1
          have hz := HBz.out.calm ((HC5.out.trans HC6.out).alloc (.cells #[.slice A3 cn c3, .bool ct] 40))
          have z0 := hz.c0
          have z1 := hz.c1
          have z2 := hz.c2
          have z3 := hz.c3
          have z4 := hz.c4
          have f0 := hz.fz 0
          have f1 := hz.fz 1
          have f2 := hz.fz 2
          have f3 := hz.fz 3
          have f4 := hz.fz 4
          clear hz h12 hm hn hN3
          go_wp2_with fail
          refine bodyPost_ret (v := .tuple #[.agg #[.bool false, .slice A2 mn c2, .bool mr, .slice A3 cn c3, .bool ct], .bool true, .int .i64 0]) ?_ rfl ⟨.inr ⟨⟨false, m, cr⟩, ⟨A2, c2, A3, c3⟩, HX2'.out, by unfold ruleV; rw [HN.out.1, HN.out.2.1, HN.out.2.2.1, HN.out.2.2.2], HRu.out _ _ _ _ _⟩, HC8.out _ ((HC5.out.trans HC6.out).alloc _) _ _ _ _ _⟩
          rw [results_cell_tt rfl]
          go_simp
    · have HX := Lib.hid (HX2.out (by trivial) hu0)
      have hu1 : (u == 0) = false := by rw [beq_eq_false_iff_ne]; exact hu0
      have hz := HBz.out.calm HC3.out
      have z0 := hz.c0
      have z1 := hz.c1
      have z2 := hz.c2
      have z3 := hz.c3
      have z4 := hz.c4
      have f0 := hz.fz 0
      have f1 := hz.fz 1
      have f2 := hz.fz 2
      have f3 := hz.fz 3
      have f4 := hz.fz 4
      clear hz
      go_wp2_with fail
      refine bodyPost_ret (v := .tuple #[.agg #[.bool false, .slice none 0 0, .bool false, .slice none 0 0, .bool false], .bool false, .int .i64 u]) ?_ rfl ⟨.inl (by rw [HX.out]; exact ⟨rfl, rfl⟩), HC8.out _ HC3.out _ _ _ _ _⟩
      rw [results_cell_tt rfl]
      go_simp
  · have HX := Lib.hid (HX1.out hv0)
    have hv1 : (v == 0) = false := by rw [beq_eq_false_iff_ne]; exact hv0
    have hz := HBz.out.calm hc2
    have z0 := hz.c0
    have z1 := hz.c1
    have z2 := hz.c2
    have z3 := hz.c3
    have z4 := hz.c4
    have f0 := hz.fz 0
    have f1 := hz.fz 1
    have f2 := hz.fz 2
    have f3 := hz.fz 3
    have f4 := hz.fz 4
    clear hz hc2
    go_wp2_with fail
    refine bodyPost_ret (v := .tuple #[.agg #[.bool false, .slice none 0 0, .bool false, .slice none 0 0, .bool false], .bool false, .int .i64 v]) ?_ rfl ⟨.inl (by rw [HX.out]; exact ⟨rfl, rfl⟩), HC8.out _ HC2.out _ _ _ _ _⟩
    rw [results_cell_tt rfl]
    go_simp
end Go.Proofs.YtmfjppaeddbdaaaGreatDoor
set_option linter.unusedVariables false
set_option linter.unusedSimpArgs false
namespace Go.Proofs.YtmfjppaeddbdaaaGreatDoor
open Go Go.RowKit Sy
def RRightEnd (z : NewE) (B : Nat) (e : Ending) (w' : World) : Prop := match rightHs z.e.rule z.e.hs with
  | none => e = .returned (.tuple #[.agg #[.slice none 0 0, .bool false, .slice none 0 0], .bool false])
  | some ks => ∃ KA kc, e = .returned (.tuple #[.agg #[.slice z.RA z.e.right.parts.length z.rc, .bool z.e.right.rest, .slice KA (redL z.e.right ks).length kc], .bool true]) ∧ PatsN w' B KA kc (redL z.e.right ks)

set_option maxRecDepth 100000 in
set_option maxHeartbeats 16000000 in
theorem rright_c (z : NewE) (nl nr hn : Nat) (lr rr : Bool) (HA : Option Addr) (w : World) (h : EntU w z) (hs : SmallE z.e) (hr : ruleErr z.e.rule = 0) (hg : gErr z.e.reg = 0) (hnl : z.e.left.parts.length = nl) (hnr : z.e.right.parts.length = nr) (hhn : z.e.hs.length = hn) (hlr : z.e.left.rest = lr) (hrr : z.e.right.rest = rr) (hHA : z.HA = HA) :
    Calls Tryz.prog 37 #[entV z.LA z.RA HA nl z.lc nr z.rc hn z.hc lr rr] w fun e w' => RRightEnd z w.heap.size e w' ∧ Calm w w' := by
  obtain ⟨w1, hw1⟩ : ∃ w1, w1 = (w.alloc (.cells #[.slice z.LA nl z.lc, .bool lr, .slice z.RA nr z.rc, .bool rr, .slice HA hn z.hc] 51)).alloc (.cells #[.slice none 0 0, .bool false, .slice none 0 0] 43) := ⟨_, rfl⟩
  have hc1 : Calm w w1 := by rw [hw1]; exact ((Calm.refl w).alloc _).alloc _
  have hb : FiveB w1 w.heap.size (.slice z.LA nl z.lc) (.bool lr) (.slice z.RA nr z.rc) (.bool rr) (.slice HA hn z.hc) := by
    rw [hw1]
    exact (FiveB.new w _ _ _ _ _ _).calm ((Calm.refl _).alloc _)
  have hz : ThreeB w1 (w.heap.size + 1) (.slice none 0 0) (.bool false) (.slice none 0 0) := by
    rw [hw1]
    have := ThreeB.new (w.alloc (.cells #[.slice z.LA nl z.lc, .bool lr, .slice z.RA nr z.rc, .bool rr, .slice HA hn z.hc] 51)) (.slice none 0 0) (.bool false) (.slice none 0 0) 43
    simpa using this
  have hsR : SmallR z.e.rule := ⟨by have := hs.lp; show z.e.left.parts.length ≤ _; omega, fun s hs' => by have := hs.ls s hs'; omega, by have := hs.rp; show z.e.right.parts.length ≤ _; omega, fun s hs' => by have := hs.rs s hs'; omega⟩
  have h64 : hn ≤ 64 := by
    have := (gErr_zero hg).2.2
    rw [← hhn]
    exact this
  have KLn : Hid (∀ W, Calls Tryz.prog 34 #[entV z.LA z.RA HA nl z.lc nr z.rc hn z.hc lr rr] W fun e w' => e = .returned (.agg #[.bool false, .slice z.LA nl z.lc, .bool lr, .slice z.RA nr z.rc, .bool rr]) ∧ Calm W w') := fun W => rline_c _ _ _ _ _ _ _ _ _ _ _ W
  have KNL : Hid (∀ (p : Pat) (Ak : Option Addr) (pn ck : Nat) (pr : Bool) (W : World), Calm w1 W → PatA W Ak ck p → p.parts.length = pn → p.rest = pr → Calls Tryz.prog 59 #[.agg #[.bool false, .slice z.LA nl z.lc, .bool lr, .slice z.RA nr z.rc, .bool rr], .agg #[.slice Ak pn ck, .bool pr]] W fun e w' => NarEnd (narL z.e.rule p) W.heap.size e w' ∧ Calm W w') := fun p Ak pn ck pr W hW hp hpn hpr => by
    have hu := h.calm (hc1.trans hW)
    have := rnleft_c z.e.rule p z.pl pn ck pr Ak W ⟨hu.l.r.toU, hu.r.r.toU, hu.l.room, hu.r.room, hu.l.cap, hu.r.cap⟩ hsR hp hpn hpr
    unfold ruleV Ent.rule NewE.pl at this
    simp only [hnl, hnr, hlr, hrr] at this
    exact this
  have HGood : Hid (∀ p ∈ z.e.hs, patErr p = 0) := (gErr_zero hg).2.1
  have HRu : Hid (ruleErr z.e.rule = 0) := hr
  have HSm := Lib.hid hs
  have HU := Lib.hid (h.calm hc1)
  have HHA := Lib.hid hHA
  have HD := Lib.hid (And.intro hnr (And.intro hhn hrr))
  have HW := Lib.hid hw1
  have HC := Lib.hid hc1
  have HB := Lib.hid hb
  have HZ := Lib.hid hz
  have hsz : w.heap.size + 1 < w1.heap.size := hz.lt
  have b0 := hb.c0
  have b1 := hb.c1
  have b2 := hb.c2
  have b3 := hb.c3
  have b4 := hb.c4
  clear hw1 hc1 hb hz hHA h hs hr hg hnl hnr hhn hlr hrr hsR
  go_enter Tryz.func37, Tryz.ntmps37
  rw [HW.out] at b4
  go_wp2_with fail
  rw [← HW.out]
  clear b0 b1 b2 b3 b4
  go_loopw [4, 13] (fun v u wr => ∃ (k : Nat) (ys : List NewP), k ≤ hn ∧ u = .int .i64 k ∧ Hid (ys.length ≤ k) ∧ Hid (RgtJ w1 wr z.e.rule z.e.hs k ys v)) (fun _ u _ => hn - (intOf u).toNat)
  case atStart => exact ⟨0, [], Nat.zero_le _, rfl, Nat.le_refl _, ⟨OwnX.nil (Calm.refl _), rfl, fun y hy => (by cases hy)⟩⟩
  case round =>
    obtain ⟨k, ys, hk, rfl, HL, HI⟩ := hrel
    obtain ⟨wq, rfl⟩ : ∃ wq, wq = wr := ⟨_, rfl⟩
    have HCq : Hid (Calm w1 wq) := HI.out.own.calm
    by_cases hlt : k < hn
    · obtain ⟨bb, o, p, Ak, ck, hA1, hbb, hp, h1, h2, h3, h5, h4⟩ := (HU.out.calm HCq.out).h.get (k := k) (by rw [HD.out.2.1]; exact hlt)
      obtain rfl : HA = some ⟨bb, o, none⟩ := HHA.out.symm.trans hA1
      obtain ⟨pn, hpn⟩ : ∃ pn, p.parts.length = pn := ⟨_, rfl⟩
      obtain ⟨pr, hpr⟩ : ∃ pr, p.rest = pr := ⟨_, rfl⟩
      rw [hpn] at h1
      rw [hpr] at h2
      have HP := Lib.hid hp
      have HPa : Hid (PatA wq Ak ck p) := ⟨h4, h3, h5⟩
      have HPn := Lib.hid (And.intro hpn hpr)
      obtain ⟨wb, hwb⟩ : ∃ wb, wb = wq.alloc (.cells #[.slice Ak pn ck, .bool pr] 40) := ⟨_, rfl⟩
      have HCb : Hid (Calm wq wb) := by
        show Below _ _ _
        rw [hwb]
        exact (Calm.refl _).alloc _
      obtain ⟨HB, hHB⟩ : ∃ HB, wq.heap.size = HB := ⟨_, rfl⟩
      have htb : TwoB wb HB (.slice Ak pn ck) (.bool pr) := by
        rw [hwb, ← hHB]
        exact TwoB.new wq _ _ _
      have HTb := Lib.hid htb
      have HSX : Hid (∀ W : World, Calm wb W → W.cell? ⟨w.heap.size, 0, none⟩ = some (.slice z.LA nl z.lc) ∧ W.cell? ⟨w.heap.size, 1, none⟩ = some (.bool lr) ∧ W.cell? ⟨w.heap.size, 2, none⟩ = some (.slice z.RA nr z.rc) ∧ W.cell? ⟨w.heap.size, 3, none⟩ = some (.bool rr) ∧ W.cell? ⟨w.heap.size, 4, none⟩ = some (.slice (some ⟨bb, o, none⟩) hn z.hc) ∧ W.cell? ⟨HB, 0, none⟩ = some (.slice Ak pn ck) ∧ W.cell? ⟨HB, 1, none⟩ = some (.bool pr)) := fun W hW => by
        have b := (‹Hid (FiveB w1 w.heap.size _ _ _ _ _)›.out.calm (HCq.out.trans HCb.out)).calm hW
        have q := htb.calm hW
        exact ⟨b.c0, b.c1, b.c2, b.c3, b.c4, q.c0, q.c1⟩
      have KN : Hid (∀ W, Calm wb W → Calls Tryz.prog 59 #[.agg #[.bool false, .slice z.LA nl z.lc, .bool lr, .slice z.RA nr z.rc, .bool rr], .agg #[.slice Ak pn ck, .bool pr]] W fun e w' => NarEnd (narL z.e.rule p) W.heap.size e w' ∧ Calm W w') := fun W hW => KNL.out p Ak pn ck pr W (HCq.out.trans (HCb.out.trans hW)) ((HPa.out.calm HCb.out).calm hW) hpn hpr
      have HWb := Lib.hid hwb
      have HHB := Lib.hid hHB
      have hsq : w1.heap.size ≤ wb.heap.size := (HCq.out.trans HCb.out).size
      clear hp h3 h4 h5 hpn hpr hwb hHB htb
      go_upto_region 5 with (fail)
      rw [← HWb.out, HHB.out]
      obtain ⟨⟨o', x⟩, hX⟩ : ∃ X, narL z.e.rule p = X := ⟨_, rfl⟩
      rw [hX] at KN
      have HX := Lib.hid hX
      clear h1 h2 hX
      rcases o' with _ | m
      · have KN1 : Hid (∀ W, Calm wb W → Calls Tryz.prog 59 #[.agg #[.bool false, .slice z.LA nl z.lc, .bool lr, .slice z.RA nr z.rc, .bool rr], .agg #[.slice Ak pn ck, .bool pr]] W fun e w' => e = .returned (.tuple #[.agg #[.bool false, .slice none 0 0, .bool false, .slice none 0 0, .bool false], .bool false, .int .i64 x]) ∧ Calm W w') := fun W hW => (KN.out W hW).mono fun e w' h => by
          obtain ⟨h1, h2⟩ := h
          refine ⟨?_, h2⟩
          rcases h1 with ⟨_, h1⟩ | ⟨m, a2, h1, _⟩
          · exact h1
          · cases h1
        clear KN
        go_cut [8, 9] (fun s u wx => s = .bool false ∧ u = .int .i64 x ∧ Hid (Calm wb wx))
        case first =>
          go_region_held3 (fun W => W.cell? ⟨w.heap.size, 0, none⟩ = some (.slice z.LA nl z.lc) ∧ W.cell? ⟨w.heap.size, 1, none⟩ = some (.bool lr) ∧ W.cell? ⟨w.heap.size, 2, none⟩ = some (.slice z.RA nr z.rc) ∧ W.cell? ⟨w.heap.size, 3, none⟩ = some (.bool rr) ∧ W.cell? ⟨w.heap.size, 4, none⟩ = some (.slice (some ⟨bb, o, none⟩) hn z.hc) ∧ W.cell? ⟨HB, 0, none⟩ = some (.slice Ak pn ck) ∧ W.cell? ⟨HB, 1, none⟩ = some (.bool pr))
            (first
              | with_reducible exact HSX.out _ (calm5 hcy hcx.size _ _ _ _ _)
              | with_reducible exact HSX.out _ (calm5 hcy (Nat.le_refl _) _ _ _ _ _)
              | with_reducible exact HSX.out _ hcy
              | with_reducible exact HSX.out _ (hcy.alloc _)
              | with_reducible exact HSX.out _ hcx
              | with_reducible exact HSX.out _ (hcx.alloc _)
              | with_reducible exact HSX.out _ (Calm.refl _)
              | with_reducible exact HSX.out _ (Below.drew (Calm.refl _))
              | with_reducible exact HSX.out _ (Below.drew ((Calm.refl _).alloc _))
              | with_reducible exact HSX.out _ ((Calm.refl _).alloc _)
              | go_keep)
            (first
              | (go_at_call 34; refine (KLn.out _).mono ?_; rintro e w4 ⟨rfl, hc4⟩; have hcx : Calm wb w4 := Calm.trans (by first | exact Below.drew (Calm.refl _) | exact Below.drew ((Calm.refl _).alloc _) | exact (Calm.refl _).alloc _ | exact Calm.refl _) hc4)
              | (go_at_call 59; refine (KN1.out _ (hcx.trans (by first | exact Calm.refl _ | exact (Calm.refl _).alloc _))).mono ?_; rintro e w5 ⟨rfl, hc5⟩; have hcy : Calm wb w5 := Calm.trans (hcx.trans (by first | exact Calm.refl _ | exact (Calm.refl _).alloc _)) hc5; (first | (with_reducible have hZ5 : FiveB w5 w4.heap.size (.bool false) (.slice none 0 0) (.bool false) (.slice none 0 0) (.bool false) := FiveB.calm (FiveB.new w4 _ _ _ _ _ _) hc5) | (with_reducible have hZ5 : FiveB w5 wb.heap.size (.bool false) (.slice none 0 0) (.bool false) (.slice none 0 0) (.bool false) := FiveB.calm (FiveB.calm (five_drew wb _) hc4) hc5) | skip); try (have z0 := hZ5.c0; have z1 := hZ5.c1; have z2 := hZ5.c2; have z3 := hZ5.c3; have z4 := hZ5.c4; have f0 := hZ5.fz 0; have f1 := hZ5.fz 1; have f2 := hZ5.fz 2; have f3 := hZ5.fz 3; have f4 := hZ5.fz 4)))
          all_goals
            go_wp2_with fail
            go_meet
            case rel =>
              first
                | (refine ⟨rfl, rfl, Lib.hid ?_⟩; with_reducible exact hcy.alloc _)
                | (refine ⟨rfl, rfl, Lib.hid ?_⟩; with_reducible exact hcy)
                | (refine ⟨rfl, rfl, Lib.hid ?_⟩; with_reducible exact calm5 hcy hcx.size _ _ _ _ _)
                | (refine ⟨rfl, rfl, Lib.hid ?_⟩; with_reducible exact calm5 hcy (Nat.le_refl _) _ _ _ _ _)
        case rest =>
          obtain ⟨rfl, rfl, HR⟩ := hcut
          have HCx : Hid (Calm w1 wc) := HCq.out.trans (HCb.out.trans HR.out)
          by_cases hx0 : x = 0
          · subst hx0
            have HI2 := HI.out.miss HP.out (by rw [HX.out]) (by rw [HX.out]) (HCb.out.trans HR.out)
            have HI3 := Lib.hid HI2
            go_wp2_with fail
            go_roundw
            case rel => exact ⟨k + 1, ys, by omega, by go_num, Nat.le_succ_of_le HL.out, HI3.out⟩
            case measure => simp [intOf]; omega
          · have hx1 : (x == 0) = false := by rw [beq_eq_false_iff_ne]; exact hx0
            have HN : Hid (rightHs z.e.rule z.e.hs = none) := HI.out.stop HP.out (by rw [HX.out]; exact hx0)
            have h3 := HZ.out.calm HCx.out
            have z0 := h3.c0
            have z1 := h3.c1
            have z2 := h3.c2
            have f0 := h3.fz 0
            have f1 := h3.fz 1
            have f2 := h3.fz 2
            have HC8 : Hid (∀ u0 u1 u2, Calm w (set3 wc (w.heap.size + 1) u0 u1 u2)) := fun u0 u1 u2 => calm3' (HC.out.trans HCx.out) (by omega) _ _ _
            clear h3 hx0
            go_wp2_with fail
            refine bodyPost_ret (v := .tuple #[.agg #[.slice none 0 0, .bool false, .slice none 0 0], .bool false]) ?_ rfl ⟨by show RRightEnd _ _ _ _; unfold RRightEnd; rw [HN.out], HC8.out _ _ _⟩
            rw [results_cell_slot rfl]
            go_simp
      · obtain ⟨rfl, hme⟩ : x = 0 ∧ m.excl = false := by
          have h1 : (narL z.e.rule p).1 = some m := by rw [HX.out]
          obtain ⟨_, _, g3, m', _, rfl, _, _⟩ := narL_some h1
          rw [HX.out] at g3
          exact ⟨g3, rfl⟩
        obtain ⟨ml, hml⟩ : ∃ ml, m.left.parts.length = ml := ⟨_, rfl⟩
        obtain ⟨mr, hmr⟩ : ∃ mr, m.right.parts.length = mr := ⟨_, rfl⟩
        obtain ⟨tl, htl⟩ : ∃ tl, m.left.rest = tl := ⟨_, rfl⟩
        obtain ⟨tr, htr⟩ : ∃ tr, m.right.rest = tr := ⟨_, rfl⟩
        have KN1 : Hid (∀ W, Calm wb W → Calls Tryz.prog 59 #[.agg #[.bool false, .slice z.LA nl z.lc, .bool lr, .slice z.RA nr z.rc, .bool rr], .agg #[.slice Ak pn ck, .bool pr]] W fun e w' => (∃ a2, e = .returned (.tuple #[.agg #[.bool false, .slice a2.AL ml a2.cl, .bool tl, .slice a2.AR mr a2.cr, .bool tr], .bool true, .int .i64 0]) ∧ RuleN w' W.heap.size a2 m) ∧ Calm W w') := fun W hW => (KN.out W hW).mono fun e w' h => by
          obtain ⟨h1, h2⟩ := h
          refine ⟨?_, h2⟩
          rcases h1 with ⟨h1, _⟩ | ⟨m', a2, h1, h3, h4⟩
          · cases h1
          · obtain rfl : m = m' := by simpa using h1
            refine ⟨a2, ?_, h4⟩
            rw [h3]
            unfold ruleV
            rw [hme, hml, hmr, htl, htr]
        have HM := Lib.hid (And.intro hmr htr)
        have HMs : Hid (m.right.parts.length ≤ 16384 ∧ ∀ l ∈ m.right.parts, l.length ≤ 16384) := by
          have h1 : (narL z.e.rule p).1 = some m := by rw [HX.out]
          have h12 := patErr_len (ruleErr_twin.1 (narL_good h1)).rp
          refine ⟨by omega, fun l hl => ?_⟩
          have := narL_each h1 (L := 250) (by decide) HSm.out.ls HSm.out.rs (HSm.out.h p (List.mem_of_getElem? HP.out)).2 l hl
          omega
        clear KN hme hml hmr htl htr
        go_cut [7, 8, 9] (fun s t u wx => ∃ B10 a2, s = .pointer (some ⟨B10, 0, none⟩) ∧ t = .bool true ∧ u = .int .i64 0 ∧ Hid (LineB wb wx B10 wb.heap.size a2 m (.bool false) (.slice a2.AL ml a2.cl) (.bool tl) (.slice a2.AR mr a2.cr) (.bool tr)))
        case first =>
          go_region_held3 (fun W => W.cell? ⟨w.heap.size, 0, none⟩ = some (.slice z.LA nl z.lc) ∧ W.cell? ⟨w.heap.size, 1, none⟩ = some (.bool lr) ∧ W.cell? ⟨w.heap.size, 2, none⟩ = some (.slice z.RA nr z.rc) ∧ W.cell? ⟨w.heap.size, 3, none⟩ = some (.bool rr) ∧ W.cell? ⟨w.heap.size, 4, none⟩ = some (.slice (some ⟨bb, o, none⟩) hn z.hc) ∧ W.cell? ⟨HB, 0, none⟩ = some (.slice Ak pn ck) ∧ W.cell? ⟨HB, 1, none⟩ = some (.bool pr))
            (first
              | with_reducible exact HSX.out _ (calm5 hcy hcx.size _ _ _ _ _)
              | with_reducible exact HSX.out _ (calm5 hcy (Nat.le_refl _) _ _ _ _ _)
              | with_reducible exact HSX.out _ hcy
              | with_reducible exact HSX.out _ (hcy.alloc _)
              | with_reducible exact HSX.out _ hcx
              | with_reducible exact HSX.out _ (hcx.alloc _)
              | with_reducible exact HSX.out _ (Calm.refl _)
              | with_reducible exact HSX.out _ (Below.drew (Calm.refl _))
              | with_reducible exact HSX.out _ (Below.drew ((Calm.refl _).alloc _))
              | with_reducible exact HSX.out _ ((Calm.refl _).alloc _)
              | go_keep)
            (first
              | (go_at_call 34; refine (KLn.out _).mono ?_; rintro e w4 ⟨rfl, hc4⟩; have hcx : Calm wb w4 := Calm.trans (by first | exact Below.drew (Calm.refl _) | exact Below.drew ((Calm.refl _).alloc _) | exact (Calm.refl _).alloc _ | exact Calm.refl _) hc4)
              | (go_at_call 59; refine (KN1.out _ (hcx.trans (by first | exact Calm.refl _ | exact (Calm.refl _).alloc _))).mono ?_; rintro e w5 ⟨⟨a2, rfl, hN5⟩, hc5⟩; have hcy : Calm wb w5 := Calm.trans (hcx.trans (by first | exact Calm.refl _ | exact (Calm.refl _).alloc _)) hc5; (first | (with_reducible have hZ5 : FiveB w5 w4.heap.size (.bool false) (.slice none 0 0) (.bool false) (.slice none 0 0) (.bool false) := FiveB.calm (FiveB.new w4 _ _ _ _ _ _) hc5) | (with_reducible have hZ5 : FiveB w5 wb.heap.size (.bool false) (.slice none 0 0) (.bool false) (.slice none 0 0) (.bool false) := FiveB.calm (FiveB.calm (five_drew wb _) hc4) hc5) | skip); try (have z0 := hZ5.c0; have z1 := hZ5.c1; have z2 := hZ5.c2; have z3 := hZ5.c3; have z4 := hZ5.c4; have f0 := hZ5.fz 0; have f1 := hZ5.fz 1; have f2 := hZ5.fz 2; have f3 := hZ5.fz 3; have f4 := hZ5.fz 4)))
          all_goals
            have hs7 := hc4.size
            have hs8 := hcx.size
            have hs9 := hc5.size
            simp [go_sem] at hs7
            go_wp2_with fail
            go_meet
            case rel =>
              first
                | (refine ⟨_, a2, rfl, rfl, rfl, Lib.hid ?_⟩; with_reducible exact lineB_new hcy (by omega) hN5)
                | (refine ⟨_, a2, rfl, rfl, rfl, Lib.hid ?_⟩; with_reducible exact lineB_set hZ5 hcy hs8 (by simp [go_sem]) (by simp [go_sem]; omega) hN5)
                | (refine ⟨_, a2, rfl, rfl, rfl, Lib.hid ?_⟩; with_reducible exact lineB_set hZ5 hcy (Nat.le_refl _) (by omega) (by omega) hN5)
        case rest =>
          obtain ⟨B10, a2, rfl, rfl, rfl, HR⟩ := hcut
          have HCx : Hid (Calm wq wc) := HCb.out.trans HR.out.calm
          have d3 := HR.out.five.c3
          have d4 := HR.out.five.c4
          have HSn : Hid (SmallN wc w1.heap.size ⟨a2.AR, a2.cr, m.right⟩) := ⟨HR.out.new.r.mono (by exact hsq), HMs.out.1, HMs.out.2⟩
          have hyl := HL.out
          go_wp2_with (at_builtin; refine wpList_append_ps rfl (.tmp 29) (.tmp 32) rfl w1 _ ys [⟨a2.AR, a2.cr, m.right⟩] rfl (HI.out.own.to (HCx.out.alloc _)) _ 1 1 rfl rfl (read_newH ⟨a2.AR, a2.cr, m.right⟩ rfl HM.out.1 HM.out.2) (by omega) ?_; intro v7 w7 hown7 hg7)
          go_roundw
          case rel => exact ⟨k + 1, ys ++ [(⟨a2.AR, a2.cr, m.right⟩ : NewP)], by omega, by go_num, by show _ ≤ _; rw [List.length_append, List.length_singleton]; omega, Lib.hid <| HI.out.hit HP.out (by rw [HX.out]) (n := m) (by rw [HX.out]) (x := ⟨a2.AR, a2.cr, m.right⟩) rfl (HCx.out.alloc _) (HSn.out.calm ((Calm.refl _).alloc _)) hg7 hown7⟩
          case measure => simp [intOf]; omega
    · obtain rfl : k = hn := by omega
      have his : rightHs z.e.rule z.e.hs = some (ys.map (·.p)) := by
        have := HI.out.is
        rw [List.take_of_length_le (by rw [HD.out.2.1]; exact Nat.le_refl _)] at this
        exact this
      have HIs := Lib.hid his
      obtain ⟨A9, c9, hv⟩ := HI.out.own.len_shape
      subst hv
      have hpn := HI.out.own.patsN (B := w1.heap.size) (Nat.le_refl _) HI.out.each
      obtain ⟨N, hN⟩ : ∃ N, ys.length = N := ⟨_, rfl⟩
      obtain ⟨rn, hrn⟩ : ∃ rn, (redL z.e.right (ys.map (·.p))).length = rn := ⟨_, rfl⟩
      have hgood := (rightHs_good his).1
      have hyl := HL.out
      have hyl2 : (ys.map (·.p)).length ≤ 16384 := by
        rw [List.length_map]
        have : ys.length ≤ _ := hyl
        omega
      have KS : Hid (∀ W, Calm wq W → Calls Tryz.prog 48 #[.agg #[.slice z.RA nr z.rc, .bool rr], .slice A9 N c9] W fun e w' => (∃ KA kc, e = .returned (.agg #[.slice z.RA nr z.rc, .bool rr, .slice KA rn kc]) ∧ PatsN w' W.heap.size KA kc (redL z.e.right (ys.map (·.p)))) ∧ Calm W w') := fun W hW => by
        have := rsimp_c z.e.right (ys.map (·.p)) z.RA z.rc A9 N c9 W (HU.out.r.calm (HCq.out.trans hW)) ((hpn.reads hyl2).calm hW) (by rw [List.length_map]; exact hN) (ruleErr_twin.1 HRu.out).rp hgood
        unfold RSEnd at this
        rw [HD.out.1, HD.out.2.2, hrn] at this
        exact this
      have hbq := HB.out.calm HCq.out
      have b2 := hbq.c2
      have b3 := hbq.c3
      have hsq := HCq.out.size
      have HRn := Lib.hid hrn
      rw [hN]
      clear hbq his hpn hN hrn hgood hyl hyl2
      go_wp2_with (go_at_call 48; refine (KS.out _ (Calm.refl _)).mono ?_; rintro e w5 ⟨⟨KA, kc, rfl, hp5⟩, hc5⟩; have h3 := HZ.out.calm (HCq.out.trans hc5); have z0 := h3.c0; have z1 := h3.c1; have z2 := h3.c2; have f0 := h3.fz 0; have f1 := h3.fz 1; have f2 := h3.fz 2)
      refine bodyPost_ret (v := .tuple #[.agg #[.slice z.RA nr z.rc, .bool rr, .slice KA rn kc], .bool true]) ?_ rfl ⟨by
        show RRightEnd _ _ _ _
        unfold RRightEnd
        rw [HIs.out]
        exact ⟨KA, kc, by rw [HD.out.1, HD.out.2.2, HRn.out], (hp5.set3 (by omega) _ _ _).mono (by omega)⟩, calm3' (HC.out.trans (HCq.out.trans hc5)) (by omega) _ _ _⟩
      rw [results_cell_slot rfl]
      go_simp
end Go.Proofs.YtmfjppaeddbdaaaGreatDoor
