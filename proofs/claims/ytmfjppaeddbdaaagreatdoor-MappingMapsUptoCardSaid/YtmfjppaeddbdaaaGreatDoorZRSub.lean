/- Walk: the reference's Substitute at the bindings that Bind made. -/
import Derived.Deep.RegionHeld3
import Derived.Deep.RegionLaw
import Derived.Test.YtmfjppaeddbdaaaGreatDoorZSubW
import Derived.Test.YtmfjppaeddbdaaaGreatDoorZFwd
import Derived.Test.YtmfjppaeddbdaaaGreatDoorZRefA
set_option linter.unusedVariables false
set_option linter.unusedSimpArgs false
namespace Go.Proofs.YtmfjppaeddbdaaaGreatDoor
open Go Go.RowKit Sy

theorem read_newS {w : World} {n : Nat} (x : Str) (h : w.heap.size = n) : ReadX encS 1 (w.alloc (.cells #[.string (bs x)] 9)) (some ⟨n, 0, none⟩) [x] := fun _ => by
  refine ⟨n, 0, rfl, by rw [← h]; simp [go_sem], fun k y hk i u hu => ?_⟩
  have h0 : k = 0 := by
    have := (List.getElem?_eq_some_iff.1 hk).1
    simp at this
    exact this
  subst h0
  obtain rfl : x = y := by simpa using hk
  subst h
  rw [cell_of_row _ w.heap.size _ _ _ _ (heap_alloc_new w _)]
  simpa [encS] using hu

theorem ResP.put1 {w : World} {P : Nat} {A : Option Addr} {n c : Nat} {re r2 : Bool} (h : ResP w P A n c re) : ResP (w.setCell ⟨P, 1, none⟩ (.bool r2)) P A n c r2 := by
  obtain ⟨cs, hh⟩ := h.kind
  exact ⟨⟨cs.setIfInBounds 1 (.bool r2), by simp [World.setCell, Array.getElem?_modify, hh]⟩, (World.cell?_setCell_other _ _ _ _ (by simp)).trans h.p0, World.cell?_setCell_same' _ _ _ (by rw [h.p1]; rfl)⟩

set_option maxRecDepth 100000 in
set_option maxHeartbeats 16000000 in
theorem rsubst_c (p q m : Pat) (n nb c lc : Nat) (re : Bool) (A LA : Option Addr) (w : World) (h : Inner p q m) (hq : PatA w A c q) (hn : q.parts.length = n) (hre : q.rest = re) (hb : BindsR w LA (bindP p m)) (hnb : (bindP p m).length = nb) (hlc : nb ≤ lc) (hlc2 : lc ≤ 9223372036854775807) (hml : ∀ x ∈ m.parts, x.length ≤ 16384) :
    Calls Tryz.prog 84 #[.agg #[.slice A n c, .bool re], .slice LA nb lc] w fun e w' => SubEnd (carryP p q m) w.heap.size e w' ∧ Calm w w' := by
  have hnl := hq.r.len
  rw [hn] at hnl
  have hn12 : n ≤ 12 := by have := (patErr_form h.tw.rp).2.2; omega
  have hn0 : 0 < n := by have := (patErr_form h.tw.rp).1; omega
  obtain ⟨s, hs⟩ : ∃ s, starN q = s := ⟨_, rfl⟩
  have hsn : s ≤ n := by rw [← hs, ← hn]; unfold starN; exact List.length_filter_le _ _
  have hnbs := bindP_len h
  rw [hnb, hs, hre] at hnbs
  obtain ⟨w1, hw1⟩ : ∃ w1, w1 = (w.alloc (.cells #[.slice A n c, .bool re] 40)).alloc (.cells #[.slice none 0 0, .bool false] 40) := ⟨_, rfl⟩
  have hc1 : Calm w w1 := by rw [hw1]; exact ((Calm.refl w).alloc _).alloc _
  have hbox : BoxZ w1 w.heap.size A n c re := by
    rw [hw1]
    exact ⟨by simp, by simp [go_sem], by simp [go_sem], by simp [go_sem], by simp [go_sem], fun o => by simp [go_sem]⟩
  have KK : Hid (∀ W, Calm w1 W → Calls Tryz.prog 67 #[.agg #[.slice A n c, .bool re]] W fun e w' => e = .returned (.int .i64 0) ∧ Calm W w') := fun W hW => rcheckA_c q n c re A W ((hq.calm hc1).calm hW) h.tw.rp hn hre
  have KW : Hid (∀ W, Calm w1 W → Calls Tryz.prog 112 #[.agg #[.slice A n c, .bool re]] W fun e w' => e = .returned (.int .i64 nb) ∧ Calm W w') := fun W hW => by
    have := wild_c q A c W (StrsR.toG ((hq.calm hc1).calm hW).r) hq.r.each h.tw.rp
    rw [hn, hre, hs, ← hnbs] at this
    exact this
  have hok : ∀ x ∈ q.parts, partOk x = true := allOk_of h.tw.rp
  have HOk := Lib.hid hok
  have HW := Lib.hid hw1
  have HC := Lib.hid hc1
  have HB := Lib.hid hbox
  have HN := Lib.hid (And.intro hn (And.intro hre (And.intro hs hnb)))
  have HQ := Lib.hid (hq.calm hc1)
  have HBi := Lib.hid (hb.calm hc1)
  have HI := Lib.hid h
  have HMl := Lib.hid hml
  have hsz : w.heap.size + 2 ≤ w1.heap.size := hbox.size
  have hnn : ((nb : Int) != (nb : Int)) = false := by simp
  clear hw1 hc1 hbox hn hre hs hnb hq hb h hml hok
  go_enter Tryz.func84, Tryz.ntmps84
  have key : (re = true ∧ nb = s + 1) ∨ (re = false ∧ nb = s) := by
    cases re with
    | true => exact .inl ⟨rfl, by simpa using hnbs⟩
    | false => exact .inr ⟨rfl, by simpa using hnbs⟩
  clear hnbs
  rcases key with ⟨rfl, hnbe⟩ | ⟨rfl, hnbe⟩
  all_goals
    have HNb := Lib.hid hnbe
    clear hnbe
    go_wp2_with (first
      | (go_at_call 67; rw [← HW.out]; refine (KK.out w1 (Calm.refl _)).mono ?_; rintro e w2 ⟨rfl, hc2⟩; have b2 := HB.out.calm hc2; have x0 := b2.x0; have x1 := b2.x1)
      | (go_at_call 112; refine (KW.out _ hc2).mono ?_; rintro e w3 ⟨rfl, hc3⟩; have b3 := (HB.out.calm (hc2.trans hc3)).calm ((Calm.refl w3).alloc (.cells #[.slice none 0 0, .bool false] 40)); have y0 := b3.x0))
    have HC3 : Hid (Calm w1 w3) := hc2.trans hc3
    obtain ⟨P, hP⟩ : ∃ P, w3.heap.size = P := ⟨_, rfl⟩
    have hres := ResP.new w3 none 0 0 false
    obtain ⟨w4, hw4⟩ : ∃ w4, w4 = w3.alloc (.cells #[.slice none 0 0, .bool false] 40) := ⟨_, rfl⟩
    rw [hP, ← hw4] at hres
    rw [← hw4, hP]
    have HRes := Lib.hid hres
    have HC4 : Hid (Calm w3 w4) := by
      show Below _ _ _
      rw [hw4]
      exact (Calm.refl _).alloc _
    have hPw : w.heap.size + 2 ≤ P := by have := HC3.out.size; omega
    obtain ⟨cs, hcs⟩ : ∃ cs, capsR p.parts m.parts = cs := ⟨_, rfl⟩
    have HCs := Lib.hid hcs
    have HP := Lib.hid hP
    clear hw4 hres hP hcs KK KW hc2 hc3 b2 b3 x0 x1 y0 hnn
    go_loopw [8, 32] (fun u8 u wr => ∃ (k T c9 : Nat) (A9 : Option Addr), k ≤ n ∧ u = .int .i64 k ∧ u8 = .int .i64 T ∧ T ≤ k ∧ Hid (starTo q k = T) ∧ k ≤ c9 ∧ c9 ≤ 9223372036854775807 ∧ Hid (OwnX encS 1 9 w3 wr (.slice A9 k c9) ((fillR q.parts cs).take k)) ∧ Hid (ResP wr P A9 k c9 false)) (fun _ u _ => n - (intOf u).toNat)
    case atStart => exact ⟨0, 0, 0, none, Nat.zero_le _, rfl, rfl, Nat.le_refl _, rfl, Nat.le_refl _, by omega, OwnX.nil HC4.out, HRes.out⟩
    case round =>
      obtain ⟨k, T, c9, A9, hk, rfl, rfl, hT, HT, hc9, hc9m, HO, HRs⟩ := hrel
      obtain ⟨wq, rfl⟩ : ∃ wq, wq = wr := ⟨_, rfl⟩
      have HCq : Hid (Calm w1 wq) := HC3.out.trans HO.out.calm
      have HTl : Hid (((fillR q.parts cs).take k).length = k) := by
        show _ = _
        rw [List.length_take, fillR_len, HN.out.1]
        omega
      have hne0 : some P ≠ (Value.slice A9 k c9).ownBlock := HO.out.kindne (by decide) HRs.out.kind
      have HNe := Lib.hid hne0
      have p0 := HRs.out.p0
      clear hne0
      by_cases hlt : k < n
      · obtain ⟨b, ob, x, rfl, hb, hx, hxl, hcx⟩ := (HQ.out.calm HCq.out).r.get (k := k) (by rw [HN.out.1]; exact hlt)
        have hfs := fillR_step (cs := cs) hx
        rw [HT.out] at hfs
        have hst := starTo_succ hx
        rw [HT.out] at hst
        have hso := starOk_iff (HOk.out x (List.mem_of_getElem? hx))
        have hxs := bs_size x
        have hxe : x = pAt q k := by
          rw [pAt_get (by rw [HN.out.1]; exact hlt)] at hx
          exact (Option.some.inj hx).symm
        have HFs := Lib.hid hfs
        have HSt := Lib.hid hst
        have HXe := Lib.hid hxe
        clear hx hfs hst hxe
        obtain ⟨st, hs⟩ : ∃ st, isStar x = st := ⟨_, rfl⟩
        rw [hs] at hso
        have HS := Lib.hid hs
        clear hs
        cases st with
        | false =>
          have KS : Hid (∀ W, Calls Tryz.prog 97 #[.string (bs x)] W fun e w' => e = .returned (.tuple #[.string (bs []), .bool false]) ∧ W = w') := fun W => star_v x false [] W (by omega) hso (by rw [starSuf, hso]; rfl)
          have HF2 : Hid ((fillR q.parts cs).take (k + 1) = (fillR q.parts cs).take k ++ [x]) := by
            show _ = _
            rw [HFs.out, HS.out]
            rfl
          have HT2 : Hid (starTo q (k + 1) = T) := by
            show _ = _
            rw [HSt.out, HS.out]
            rfl
          clear hso
          go_wp2_with (first
            | (go_at_call 97; refine (KS.out _).mono ?_; rintro e w5 ⟨rfl, rfl⟩)
            | (at_builtin; refine wpList_append_xs (enc := encS) (K := 1) (T := 9) Tryz.underlying38 info_strS rfl (by decide) (by decide) encS_len encS_one rfl (.tmp 72) (.tmp 74) rfl w3 _ ((fillR q.parts cs).take k) [x] rfl (HO.out.to ((Calm.refl _).alloc _)) _ 1 1 rfl rfl (read_newS x rfl) (by rw [HTl.out]; omega) ?_; intro v7 w7 hown7 hg7; obtain ⟨A7, c7, hv7⟩ := hown7.len_shape; rw [List.length_append, HTl.out, List.length_singleton] at hv7; subst hv7; have hR7 := (HRs.out.calm ((Calm.refl _).alloc (.cells #[.string (bs x)] 9))).block (hg7.block P ((HRs.out.calm ((Calm.refl _).alloc (.cells #[.string (bs x)] 9))).lt) HNe.out); have hP70 := hR7.p0; have hP7f := hR7.f 0))
          go_roundw
          case rel =>
            have hne7 : some P ≠ (Value.slice A7 (k + 1) c7).ownBlock := hown7.kindne (by decide) hR7.kind
            have h9 := hown7.setX (p := ⟨P, 0, none⟩) (.slice A7 (k + 1) c7) (by show w3.heap.size ≤ P; rw [HP.out]; exact Nat.le_refl _) hne7
            rcases h9.row encS_len with ⟨_, e0⟩ | ⟨g, c5, e1, g1, g2, _, _⟩
            · exact absurd (congrArg List.length e0) (by simp)
            · simp only [List.length_append, HTl.out, List.length_singleton, Value.slice.injEq, true_and] at e1 g1
              obtain ⟨rfl, rfl⟩ := e1
              exact ⟨k + 1, T, c7, _, by omega, by go_num, rfl, by omega, HT2.out, g1, g2, by show OwnX _ _ _ _ _ _ _; rw [HF2.out]; exact h9, hR7.put⟩
          case measure => simp [intOf]; omega
        | true =>
          have hTs := starTo_lt (q := q) (k := k) (by rw [← HXe.out]; exact HS.out) (by rw [HN.out.1]; exact hlt)
          rw [HT.out, HN.out.2.2.1] at hTs
          have hTb : T < nb := by have := HNb.out; omega
          obtain ⟨b0, o0, y, rfl, hbz, hby, d0, d1, hpy⟩ := (HBi.out.calm HCq.out).get (k := T) (by rw [HN.out.2.2.2]; exact hTb)
          have hcap := bindP_cap HI.out (t := T) (by rw [HN.out.2.2.1]; exact hTs)
          rw [HCs.out] at hcap
          obtain ⟨_, _, hpk⟩ := bindP_ok HI.out hby
          obtain ⟨cap, hcapv⟩ : ∃ cap, cs.getD T [] = cap := ⟨_, rfl⟩
          rw [hcapv] at hcap
          have hyp : y.p = ⟨[cap], false⟩ := by
            rw [hby] at hcap
            exact Option.some.inj hcap
          have hyr := hpy.r
          rw [hyp] at hyr d0 d1 hpk
          obtain ⟨yb, yo, hyA, hyb, hyc⟩ := hyr.at_ (by simp)
          have e0 := hyc 0 cap rfl
          rw [Nat.add_zero] at e0
          have hcok : partOk cap = true := hpk cap (by simp)
          obtain ⟨AY, cy, py⟩ := y
          simp only [List.length_singleton] at hyA d0 d1
          subst hyA
          have hcl : cap.length ≤ 16384 := hyr.each cap (by simp)
          have hx1 : 1 ≤ x.length := by
            have := HS.out
            cases x with
            | nil => cases this
            | cons a rr => simp
          obtain ⟨xt, hxt⟩ : ∃ xt, x.tail = xt := ⟨_, rfl⟩
          have KS : Hid (∀ W, Calls Tryz.prog 97 #[.string (bs x)] W fun e w' => e = .returned (.tuple #[.string (bs xt), .bool true]) ∧ W = w') := fun W => star_v x true xt W (by omega) hso (by rw [starSuf, hso]; exact hxt)
          have KPt : Hid (∀ W, Calls Tryz.prog 96 #[.string (bs cap)] W fun e w' => e = .returned (.bool true) ∧ W = w') := fun W => part_v cap true W (by omega) hcok
          obtain ⟨z, hz⟩ : ∃ z, cap ++ xt = z := ⟨_, rfl⟩
          have hcat : bs cap ++ bs xt = bs z := by rw [← hz, bs_append]
          have hcaps := bs_size cap
          have htl : xt.length ≤ 16384 := by rw [← hxt, List.length_tail]; omega
          have htls := bs_size xt
          have hs1 : ¬ 9223372036854775807 < cap.length + xt.length := by omega
          have hs2 : cap.length + xt.length ≤ 9223372036854775807 := by omega
          have hs3 : ¬ (9223372036854775807 : Int) < ((cap.length : Int) + (xt.length : Int)) := by omega
          have HF2 : Hid ((fillR q.parts cs).take (k + 1) = (fillR q.parts cs).take k ++ [z]) := by
            show _ = _
            rw [HFs.out, HS.out, if_pos rfl, hcapv, hxt, hz]
          have HT2 : Hid (starTo q (k + 1) = T + 1) := by
            show _ = _
            rw [HSt.out, HS.out]
            rfl
          have hab : Calm wq (wq.alloc (.cells #[.slice (some ⟨yb, yo, none⟩) 1 cy, .bool false] 140)) := (Calm.refl _).alloc _
          have e1 := Calm.at_ hab e0 hyb
          have p1 := (HRs.out.calm hab).p0
          have HAb := Lib.hid hab
          have hT1 : (0 : Int) ≤ (T : Int) := by omega
          have hT2 : (T : Int) < (nb : Int) := by omega
          have hk12 : T ≤ 12 := by omega
          clear hso hcap hby hpk hpy hyp hyr hyc hcapv hxt hz hab hcok
          go_wp2_with (first
            | (go_at_call 97; refine (KS.out _).mono ?_; rintro e w5 ⟨rfl, rfl⟩)
            | (go_at_call 96; refine (KPt.out _).mono ?_; rintro e w5 ⟨rfl, rfl⟩)
            | (at_builtin; refine wpList_append_xs (enc := encS) (K := 1) (T := 9) Tryz.underlying38 info_strS rfl (by decide) (by decide) encS_len encS_one rfl (.tmp 72) (.tmp 74) rfl w3 _ ((fillR q.parts cs).take k) [z] rfl (HO.out.to (HAb.out.alloc _)) _ 1 1 rfl rfl (read_newS z (by simp)) (by rw [HTl.out]; omega) ?_; intro v7 w7 hown7 hg7; obtain ⟨A7, c7, hv7⟩ := hown7.len_shape; rw [List.length_append, HTl.out, List.length_singleton] at hv7; subst hv7; have hR7 := (HRs.out.calm (HAb.out.alloc (.cells #[.string (bs z)] 9))).block (hg7.block P ((HRs.out.calm (HAb.out.alloc (.cells #[.string (bs z)] 9))).lt) HNe.out); have hP70 := hR7.p0; have hP7f := hR7.f 0))
          go_roundw
          case rel =>
            have hne7 : some P ≠ (Value.slice A7 (k + 1) c7).ownBlock := hown7.kindne (by decide) hR7.kind
            have h9 := hown7.setX (p := ⟨P, 0, none⟩) (.slice A7 (k + 1) c7) (by show w3.heap.size ≤ P; rw [HP.out]; exact Nat.le_refl _) hne7
            rcases h9.row encS_len with ⟨_, e0⟩ | ⟨g, c5, e1, g1, g2, _, _⟩
            · exact absurd (congrArg List.length e0) (by simp)
            · simp only [List.length_append, HTl.out, List.length_singleton, Value.slice.injEq, true_and] at e1 g1
              obtain ⟨rfl, rfl⟩ := e1
              exact ⟨k + 1, T + 1, c7, _, by omega, by go_num, by go_num, by omega, HT2.out, g1, g2, by show OwnX _ _ _ _ _ _ _; rw [HF2.out]; exact h9, hR7.put⟩
          case measure => simp [intOf]; omega
      · obtain rfl : k = n := by omega
        have hTS : T = s := by
          have h2 := starTo_all q
          rw [HN.out.1, HN.out.2.2.1, HT.out] at h2
          exact h2
        have hfe : (fillR q.parts cs).take k = fillR q.parts (capsR p.parts m.parts) := by
          rw [← HN.out.1, fillR_take_all q cs, HCs.out]
        have HFe := Lib.hid hfe
        have HEach : Hid (∀ x ∈ (carryP p q m).parts, x.length ≤ 32768) := carry_each HI.out (L := 16384) (M := 16384) HQ.out.r.each HMl.out
        have p1 := HRs.out.p1
        have hb9 := HB.out.calm HCq.out
        have x1 := hb9.x1
        have z0 := hb9.z0
        have z1 := hb9.z1
        have f0 := hb9.fz 0
        have f1 := hb9.fz 1
        clear hb9 hfe
        have HNS : Hid (NewS wq w3.heap.size A9 c9 ((fillR q.parts cs).take k)) := by
          refine HO.out.strsU (by rw [HTl.out]; omega) (fun x hx => ?_)
          have h2 := HEach.out x (by rw [HI.out.parts, ← HFe.out]; exact List.mem_append_left _ hx)
          omega
        have hw3 : w.heap.size + 2 ≤ w3.heap.size := by rw [HP.out]; exact hPw
        have hc8 : ∀ (W : World), Calm w1 W → ∀ u0 u1, Hid (Calm w ((W.setCell ⟨w.heap.size + 1, 0, none⟩ u0).setCell ⟨w.heap.size + 1, 1, none⟩ u1)) := fun W hW u0 u1 =>
          Below.setCell (Below.setCell (HC.out.trans hW) (by show w.heap.size ≤ w.heap.size + 1; omega) _) (by show w.heap.size ≤ w.heap.size + 1; omega) _
        have hs8 : ∀ (W : World) (A9 : Option Addr) (c9 : Nat) (ls : List Str), NewS W w3.heap.size A9 c9 ls → ∀ u0 u1, Hid (NewS ((W.setCell ⟨w.heap.size + 1, 0, none⟩ u0).setCell ⟨w.heap.size + 1, 1, none⟩ u1) w.heap.size A9 c9 ls) := fun W A9 c9 ls hW u0 u1 =>
          ((hW.set (p := ⟨w.heap.size + 1, 0, none⟩) u0 (by show w.heap.size + 1 < _; omega)).set (p := ⟨w.heap.size + 1, 1, none⟩) u1 (by show w.heap.size + 1 < _; omega)).mono (by omega)
        have HC8 := Lib.hid hc8
        have HS8 := Lib.hid hs8
        clear hc8 hs8
        have hgt : ¬ (12 : Int) < (k : Int) := by omega
        first
        | have hrf : q.rest = false := HN.out.2.1
          have hrr : Hid ((carryP p q m).parts = (fillR q.parts cs).take k) := by
            show _ = _
            rw [HI.out.parts, hrf, HFe.out]
            simp
          have hcr : Hid ((carryP p q m).rest = false) := by
            show (q.rest && m.rest) = false
            rw [hrf]
            rfl
          clear hrf hTS
          go_wp2_with fail
          refine bodyPost_ret (v := .tuple #[.agg #[.slice A9 k c9, .bool false], .int .i64 0]) ?_ rfl ⟨.inr ⟨by rw [hrr.out, HTl.out]; omega, A9, c9, by rw [hrr.out, HTl.out, hcr.out], by rw [hrr.out]; exact (HS8.out _ _ _ _ HNS.out _ _).out⟩, (HC8.out _ HCq.out _ _).out⟩
          rw [results_cell_slot rfl]
          go_simp
        | have hrt : q.rest = true := HN.out.2.1
          have hTb : T < nb := by have := HNb.out; omega
          have hbl := bindP_last HI.out hrt
          rw [HN.out.2.2.1, ← hTS] at hbl
          obtain ⟨b0, o0, y, rfl, hbz, hby, d0, d1, hpy⟩ := (HBi.out.calm HCq.out).get (k := T) (by rw [HN.out.2.2.2]; exact hTb)
          have hyp : y.p = ⟨m.parts.drop p.parts.length, m.rest⟩ := by
            rw [hbl] at hby
            exact (Option.some.inj hby).symm
          obtain ⟨_, g2, g3⟩ := bindP_ok HI.out hby
          obtain ⟨ml, hml2⟩ : ∃ ml, m.parts.drop p.parts.length = ml := ⟨_, rfl⟩
          obtain ⟨d, hd⟩ : ∃ d, ml.length = d := ⟨_, rfl⟩
          obtain ⟨mr, hmr⟩ : ∃ mr, m.rest = mr := ⟨_, rfl⟩
          obtain ⟨AY, cy, py⟩ := y
          simp only at hyp d0 d1 hpy g2 g3
          subst hyp
          simp only [hml2, hd, hmr] at d0 d1 g2 g3
          have HPy : Hid (StrsR wq AY ml) := by
            have := hpy.r
            simp only [hml2] at this
            exact this
          have hdl := HPy.out.len
          rw [hd] at hdl
          have hcy : d ≤ cy ∧ cy ≤ 9223372036854775807 := by
            have h1 := hpy.room
            simp only [hml2, hd] at h1
            exact ⟨h1, hpy.cap⟩
          have hcpl : Hid ((carryP p q m).parts = (fillR q.parts cs).take k ++ ml) := by
            show _ = _
            rw [HI.out.parts, hrt, if_pos rfl, HFe.out, hml2]
          have hcpn : Hid ((carryP p q m).parts.length = k + d) := by
            show _ = _
            rw [hcpl.out, List.length_append, HTl.out, hd]
          have hcr : Hid ((carryP p q m).rest = mr) := by
            show (q.rest && m.rest) = mr
            rw [hrt, hmr]
            rfl
          have HD := Lib.hid hd
          have HG3 := Lib.hid g3
          have hemp : (((d : Int) == 0) = true ∧ mr = true) ∨ ((d : Int) == 0) = false := by
            by_cases h0 : d = 0
            · exact .inl ⟨by rw [beq_iff_eq]; omega, g2 h0⟩
            · exact .inr (by rw [beq_eq_false_iff_ne]; omega)
          have hT1 : (0 : Int) ≤ (T : Int) := by omega
          have hT2 : (T : Int) < (nb : Int) := by omega
          have hdb : (d : Int) ≤ 16384 := by omega
          clear hbl hby hpy hml2 hd hmr hrt g2 g3 hTS
          rcases hemp with ⟨hd0, rfl⟩ | hd0
          · go_wp2_with fail
            obtain ⟨wb, hwb⟩ : ∃ wb, wb = wq.alloc (.cells #[.slice AY d cy, .bool true] 140) := ⟨_, rfl⟩
            rw [← hwb]
            have hab : Calm wq wb := by
              show Below _ _ _
              rw [hwb]
              exact (Calm.refl _).alloc _
            obtain ⟨B, hB⟩ : ∃ B, wq.heap.size = B := ⟨_, rfl⟩
            have q0 : wb.cell? ⟨B, 0, none⟩ = some (.slice AY d cy) := by rw [hwb, ← hB]; simp
            have q1 : wb.cell? ⟨B, 1, none⟩ = some (.bool true) := by rw [hwb, ← hB]; simp
            have hBl : B < wb.heap.size := by rw [hwb, ← hB]; simp
            rw [hB]
            have HAb := Lib.hid hab
            have HQ01 := Lib.hid (And.intro q0 (And.intro q1 hBl))
            have HBP : Hid (P < B) := by
              show P < B
              rw [← hB]
              exact HRs.out.lt
            have HOb : Hid (OwnX encS 1 9 w3 wb (.slice A9 k c9) ((fillR q.parts cs).take k)) := HO.out.to hab
            have HRb : Hid (ResP wb P A9 k c9 false) := HRs.out.calm hab
            have HPb : Hid (StrsR wb AY ml) := HPy.out.calm hab
            have HBO : Hid (some B ≠ (Value.slice A9 k c9).ownBlock) := fun e => by
              have := HO.out.blk_lt e
              omega
            have hB3 : w3.heap.size ≤ B := by rw [← hB]; exact HO.out.calm.size
            clear hwb hB hab p0 p1 x1 z0 z1 f0 f1 hbz d0 d1 hT1 hT2
            go_loopw [97] (fun u wr => ∃ j : Nat, j ≤ d ∧ u = .int .i64 j ∧ wr = wb) (fun u _ => d - (intOf u).toNat)
            case atStart => exact ⟨0, Nat.zero_le _, rfl, rfl⟩
            case round =>
              obtain ⟨j, hj, rfl, rfl⟩ := hrel
              by_cases hlt2 : j < d
              · obtain ⟨b6, o6, y6, rfl, hb6, hy6, hyl6, hc6⟩ := HPb.out.get (k := j) (by rw [HD.out]; exact hlt2)
                have KPt : Hid (∀ W, Calls Tryz.prog 96 #[.string (bs y6)] W fun e w' => e = .returned (.bool true) ∧ W = w') := fun W => part_v y6 true W (by omega) (HG3.out y6 (List.mem_of_getElem? hy6))
                have hys := bs_size y6
                clear hy6
                go_wp2_with (go_at_call 96; refine (KPt.out _).mono ?_; rintro e w5 ⟨rfl, rfl⟩)
                go_roundw
                case rel => exact ⟨j + 1, by omega, by go_num, by trivial⟩
                case measure => simp [intOf]; omega
              · obtain rfl : j = d := by omega
                have p0 := HRb.out.p0
                have q0 := HQ01.out.1
                have q1 := HQ01.out.2.1
                go_wp2_with fail
                go_region_law ((refine step_append_xs (enc := encS) (K := 1) (T := 9) Tryz.underlying38 info_strS rfl (by decide) (by decide) encS_len encS_one rfl (.tmp 107) (.tmp 109) rfl w3 (.slice A9 k c9) ((fillR q.parts cs).take k) ml (by simp [Act.eval, Act.put]) (HOb.out.to (by first | exact Below.drew (Calm.refl _) | exact Calm.refl _)) AY j cy (by simp [Act.eval, Act.put]) HD.out (HPb.out.readS.calm (by first | exact Below.drew (Calm.refl _) | exact Calm.refl _)) (by rw [HTl.out]; omega) ?_; intro v8 w8 hown8 hg8; obtain ⟨A8, c8, hv8⟩ := hown8.len_shape; rw [List.length_append, HTl.out, HD.out] at hv8; subst hv8; have hR8 := (HRb.out.calm (Below.drew (Calm.refl _))).block (hg8.block P HRb.out.lt HNe.out); have hP80 := hR8.p0; have hP8f := hR8.f 0; have hP8g := hR8.f 1; have hP81 := hR8.p1; have hB8 := hg8.block B HQ01.out.2.2 HBO.out; have hB81 := (World.cell?_of_block (a := ⟨B, 1, none⟩) hB8).trans HQ01.out.2.1))
                all_goals
                  obtain ⟨w9, hw9⟩ : ∃ w9, w9 = (w8.setCell ⟨P, 0, none⟩ (.slice A8 (k + j) c8)).setCell ⟨P, 1, none⟩ (.bool true) := ⟨_, rfl⟩
                  rw [← hw9]
                  have hne : some P ≠ (Value.slice A8 (k + j) c8).ownBlock := hown8.kindne (by decide) hR8.kind
                  have hP3 : w3.heap.size ≤ P := by rw [HP.out]; exact Nat.le_refl _
                  have HO9 : Hid (OwnX encS 1 9 w3 w9 (.slice A8 (k + j) c8) ((fillR q.parts cs).take k ++ ml)) := by
                    show OwnX _ _ _ _ _ _ _
                    rw [hw9]
                    exact (hown8.setX (p := ⟨P, 0, none⟩) _ hP3 hne).setX (p := ⟨P, 1, none⟩) _ hP3 hne
                  have HR9 : Hid (ResP w9 P A8 (k + j) c8 true) := by
                    show ResP _ _ _ _ _ _
                    rw [hw9]
                    exact hR8.put.put1
                  have HC9 : Hid (Calm w1 w9) := HC3.out.trans HO9.out.calm
                  have p0 := HR9.out.p0
                  have p1 := HR9.out.p1
                  have hbz := HB.out.calm HC9.out
                  have z0 := hbz.z0
                  have z1 := hbz.z1
                  have f0 := hbz.fz 0
                  have f1 := hbz.fz 1
                  have HN9 : Hid (NewS w9 w3.heap.size A8 c8 (carryP p q m).parts) := by
                    show NewS _ _ _ _ _
                    rw [hcpl.out]
                    refine HO9.out.strsU (by rw [← hcpl.out, hcpn.out]; omega) (fun x hx => ?_)
                    have h2 := HEach.out x (by rw [hcpl.out]; exact hx)
                    omega
                  clear hbz hw9 hne hown8 hg8 hR8 hP80 hP8f hP8g hP81 hB8 hB81 HRb HOb HPb hgt hP3 q0 q1
                  have h12 : 12 < k + j ∨ k + j ≤ 12 := by omega
                  rcases h12 with h12 | h12
                  · have hgt : (12 : Int) < (k : Int) + (j : Int) := by omega
                    go_wp2_with fail
                    refine bodyPost_ret (v := .tuple #[.agg #[.slice none 0 0, .bool false], .int .i64 31]) ?_ rfl ⟨.inl ⟨by rw [hcpn.out]; exact h12, rfl⟩, (HC8.out _ HC9.out _ _).out⟩
                    rw [results_cell_slot rfl]
                    go_simp
                  · have hgt : ¬ (12 : Int) < (k : Int) + (j : Int) := by omega
                    go_wp2_with fail
                    refine bodyPost_ret (v := .tuple #[.agg #[.slice A8 (k + j) c8, .bool true], .int .i64 0]) ?_ rfl ⟨.inr ⟨by rw [hcpn.out]; exact h12, A8, c8, by rw [hcpn.out, hcr.out], (HS8.out _ _ _ _ HN9.out _ _).out⟩, (HC8.out _ HC9.out _ _).out⟩
                    rw [results_cell_slot rfl]
                    go_simp
          · go_wp2_with fail
            obtain ⟨wb, hwb⟩ : ∃ wb, wb = wq.alloc (.cells #[.slice AY d cy, .bool mr] 140) := ⟨_, rfl⟩
            rw [← hwb]
            have hab : Calm wq wb := by
              show Below _ _ _
              rw [hwb]
              exact (Calm.refl _).alloc _
            obtain ⟨B, hB⟩ : ∃ B, wq.heap.size = B := ⟨_, rfl⟩
            have q0 : wb.cell? ⟨B, 0, none⟩ = some (.slice AY d cy) := by rw [hwb, ← hB]; simp
            have q1 : wb.cell? ⟨B, 1, none⟩ = some (.bool mr) := by rw [hwb, ← hB]; simp
            have hBl : B < wb.heap.size := by rw [hwb, ← hB]; simp
            rw [hB]
            have HAb := Lib.hid hab
            have HQ01 := Lib.hid (And.intro q0 (And.intro q1 hBl))
            have HBP : Hid (P < B) := by
              show P < B
              rw [← hB]
              exact HRs.out.lt
            have HOb : Hid (OwnX encS 1 9 w3 wb (.slice A9 k c9) ((fillR q.parts cs).take k)) := HO.out.to hab
            have HRb : Hid (ResP wb P A9 k c9 false) := HRs.out.calm hab
            have HPb : Hid (StrsR wb AY ml) := HPy.out.calm hab
            have HBO : Hid (some B ≠ (Value.slice A9 k c9).ownBlock) := fun e => by
              have := HO.out.blk_lt e
              omega
            have hB3 : w3.heap.size ≤ B := by rw [← hB]; exact HO.out.calm.size
            clear hwb hB hab p0 p1 x1 z0 z1 f0 f1 hbz d0 d1 hT1 hT2
            go_loopw [97] (fun u wr => ∃ j : Nat, j ≤ d ∧ u = .int .i64 j ∧ wr = wb) (fun u _ => d - (intOf u).toNat)
            case atStart => exact ⟨0, Nat.zero_le _, rfl, rfl⟩
            case round =>
              obtain ⟨j, hj, rfl, rfl⟩ := hrel
              by_cases hlt2 : j < d
              · obtain ⟨b6, o6, y6, rfl, hb6, hy6, hyl6, hc6⟩ := HPb.out.get (k := j) (by rw [HD.out]; exact hlt2)
                have KPt : Hid (∀ W, Calls Tryz.prog 96 #[.string (bs y6)] W fun e w' => e = .returned (.bool true) ∧ W = w') := fun W => part_v y6 true W (by omega) (HG3.out y6 (List.mem_of_getElem? hy6))
                have hys := bs_size y6
                clear hy6
                go_wp2_with (go_at_call 96; refine (KPt.out _).mono ?_; rintro e w5 ⟨rfl, rfl⟩)
                go_roundw
                case rel => exact ⟨j + 1, by omega, by go_num, by trivial⟩
                case measure => simp [intOf]; omega
              · obtain rfl : j = d := by omega
                have p0 := HRb.out.p0
                have q0 := HQ01.out.1
                have q1 := HQ01.out.2.1
                go_wp2_with fail
                go_region_law ((refine step_append_xs (enc := encS) (K := 1) (T := 9) Tryz.underlying38 info_strS rfl (by decide) (by decide) encS_len encS_one rfl (.tmp 107) (.tmp 109) rfl w3 (.slice A9 k c9) ((fillR q.parts cs).take k) ml (by simp [Act.eval, Act.put]) (HOb.out.to (by first | exact Below.drew (Calm.refl _) | exact Calm.refl _)) AY j cy (by simp [Act.eval, Act.put]) HD.out (HPb.out.readS.calm (by first | exact Below.drew (Calm.refl _) | exact Calm.refl _)) (by rw [HTl.out]; omega) ?_; intro v8 w8 hown8 hg8; obtain ⟨A8, c8, hv8⟩ := hown8.len_shape; rw [List.length_append, HTl.out, HD.out] at hv8; subst hv8; have hR8 := (HRb.out.calm (Below.drew (Calm.refl _))).block (hg8.block P HRb.out.lt HNe.out); have hP80 := hR8.p0; have hP8f := hR8.f 0; have hP8g := hR8.f 1; have hP81 := hR8.p1; have hB8 := hg8.block B HQ01.out.2.2 HBO.out; have hB81 := (World.cell?_of_block (a := ⟨B, 1, none⟩) hB8).trans HQ01.out.2.1))
                all_goals
                  obtain ⟨w9, hw9⟩ : ∃ w9, w9 = (w8.setCell ⟨P, 0, none⟩ (.slice A8 (k + j) c8)).setCell ⟨P, 1, none⟩ (.bool mr) := ⟨_, rfl⟩
                  rw [← hw9]
                  have hne : some P ≠ (Value.slice A8 (k + j) c8).ownBlock := hown8.kindne (by decide) hR8.kind
                  have hP3 : w3.heap.size ≤ P := by rw [HP.out]; exact Nat.le_refl _
                  have HO9 : Hid (OwnX encS 1 9 w3 w9 (.slice A8 (k + j) c8) ((fillR q.parts cs).take k ++ ml)) := by
                    show OwnX _ _ _ _ _ _ _
                    rw [hw9]
                    exact (hown8.setX (p := ⟨P, 0, none⟩) _ hP3 hne).setX (p := ⟨P, 1, none⟩) _ hP3 hne
                  have HR9 : Hid (ResP w9 P A8 (k + j) c8 mr) := by
                    show ResP _ _ _ _ _ _
                    rw [hw9]
                    exact hR8.put.put1
                  have HC9 : Hid (Calm w1 w9) := HC3.out.trans HO9.out.calm
                  have p0 := HR9.out.p0
                  have p1 := HR9.out.p1
                  have hbz := HB.out.calm HC9.out
                  have z0 := hbz.z0
                  have z1 := hbz.z1
                  have f0 := hbz.fz 0
                  have f1 := hbz.fz 1
                  have HN9 : Hid (NewS w9 w3.heap.size A8 c8 (carryP p q m).parts) := by
                    show NewS _ _ _ _ _
                    rw [hcpl.out]
                    refine HO9.out.strsU (by rw [← hcpl.out, hcpn.out]; omega) (fun x hx => ?_)
                    have h2 := HEach.out x (by rw [hcpl.out]; exact hx)
                    omega
                  clear hbz hw9 hne hown8 hg8 hR8 hP80 hP8f hP8g hP81 hB8 hB81 HRb HOb HPb hgt hP3 q0 q1
                  have h12 : 12 < k + j ∨ k + j ≤ 12 := by omega
                  rcases h12 with h12 | h12
                  · have hgt : (12 : Int) < (k : Int) + (j : Int) := by omega
                    go_wp2_with fail
                    refine bodyPost_ret (v := .tuple #[.agg #[.slice none 0 0, .bool false], .int .i64 31]) ?_ rfl ⟨.inl ⟨by rw [hcpn.out]; exact h12, rfl⟩, (HC8.out _ HC9.out _ _).out⟩
                    rw [results_cell_slot rfl]
                    go_simp
                  · have hgt : ¬ (12 : Int) < (k : Int) + (j : Int) := by omega
                    go_wp2_with fail
                    refine bodyPost_ret (v := .tuple #[.agg #[.slice A8 (k + j) c8, .bool mr], .int .i64 0]) ?_ rfl ⟨.inr ⟨by rw [hcpn.out]; exact h12, A8, c8, by rw [hcpn.out, hcr.out], (HS8.out _ _ _ _ HN9.out _ _).out⟩, (HC8.out _ HC9.out _ _).out⟩
                    rw [results_cell_slot rfl]
                    go_simp
end Go.Proofs.YtmfjppaeddbdaaaGreatDoor
