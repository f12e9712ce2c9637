/- Walk: path.Under of "//view". -/
import Derived.Test.YtlmclpbkhhgekaaDoorWalkY
import Derived.Test.YtlmclpbkhhgekaaDoorStrLaw
import Derived.Test.YtlmclpbkhhgekaaDoorDecide
import Derived.Test.YtlmclpbkhhgekaaDoorStrCheck
set_option linter.unusedVariables false
set_option linter.unusedSimpArgs false
namespace Go.Proofs.YtlmclpbkhhgekaaDoor
open Go Go.RowKit Sy

set_option maxHeartbeats 1000000 in
theorem comps1_c (w : World) (hM : MaxL w) :
    Calls Tryd.prog 40 #[.string ⟨#[47, 47, 118, 105, 101, 119]⟩, .int .i64 1] w fun e w' => e = .returned (.tuple #[.slice (some ⟨w.heap.size, 0, none⟩) 1 1, .bool true]) ∧ Calm w w' ∧ StrsG w' (some ⟨w.heap.size, 0, none⟩) [viewN] := by
  have hcut : Calls Tryd.prog 62 #[.string ⟨#[47, 47, 118, 105, 101, 119]⟩, .string ⟨#[47, 47]⟩] w fun e w' => e = .returned (.tuple #[.string ⟨#[118, 105, 101, 119]⟩, .bool true]) ∧ w = w' := cut47_c [47, 47, 118, 105, 101, 119] w
  have hsp : Calls Tryd.prog 63 #[.string ⟨#[118, 105, 101, 119]⟩, .string ⟨#[47]⟩] w fun e w' => e = .returned (.slice (some ⟨w.heap.size, 0, none⟩) 1 1) ∧ Calm w w' ∧ StrsG w' (some ⟨w.heap.size, 0, none⟩) [viewN] := by
    have := split_c viewN w (by decide) hM
    rw [show slash viewN = [viewN] by decide] at this
    exact this
  clear hM
  go_enter Tryd.func40, Tryd.ntmps40
  go_wp2_with (first | (go_at_call 62; refine hcut.mono ?_; rintro e w' ⟨rfl, rfl⟩) | (go_at_call 63; refine hsp.mono ?_; rintro e w2 ⟨rfl, hc2, hst2⟩))
  have HS := Lib.hid hst2
  have HC := Lib.hid hc2
  clear hst2 hc2 hsp hcut
  go_loop [26] (fun q => ∃ k : Nat, k ≤ 1 ∧ q = .int .i64 k) (fun q => 1 - (intOf q).toNat)
  case atStart => exact ⟨0, Nat.zero_le _, rfl⟩
  case round =>
    obtain ⟨k, hk, rfl⟩ := hrel
    by_cases hlt : k < 1
    · obtain rfl : k = 0 := by omega
      obtain ⟨b, o, l, hA, hb, hl, hll, hcell⟩ := HS.out.get (k := 0) (by simp)
      obtain ⟨rfl, rfl⟩ : w.heap.size = b ∧ 0 = o := by simpa using hA
      obtain rfl : viewN = l := by simpa using hl
      clear hl hA hll
      rw [Nat.zero_add] at hcell
      go_wp2_with (go_at_call 64; refine (comp_v viewN true _ (by decide) (by decide)).mono ?_; rintro e w' ⟨rfl, rfl⟩)
      go_round
      case rel => exact ⟨1, by omega, by go_num⟩
      case measure => simp [intOf]
    · obtain rfl : k = 1 := by omega
      go_wp2
      go_ret2
      exact ⟨rfl, HC.out, HS.out⟩

def underE (c : Str) : Value := match pathOf c with
  | none => .tuple #[.bool false, .int .i64 20]
  | some l => .tuple #[.bool (l.getD 0 [] == viewN), .int .i64 0]
theorem underE_yes {c : Str} (h : underV c = true) : underE c = .tuple #[.bool true, .int .i64 0] := by
  unfold underV at h
  unfold underE
  rcases hc : pathOf c with _ | l
  · rw [hc] at h; cases h
  · rw [hc] at h
    simp only at h ⊢
    rw [h]
theorem underE_no {c : Str} (h : underV c = false) : underE c = .tuple #[.bool false, .int .i64 20] ∨ underE c = .tuple #[.bool false, .int .i64 0] := by
  unfold underV at h
  unfold underE
  rcases hc : pathOf c with _ | l
  · exact .inl rfl
  · rw [hc] at h
    simp only at h ⊢
    rw [h]
    exact .inr rfl

theorem path_len {c : Str} {l : List Str} (h : pathOf c = some l) : l.length ≤ c.length + 1 := by
  unfold pathOf pathParts at h
  split at h
  · rename_i m hm
    split at hm
    · simp only [Option.some.injEq] at hm
      split at h
      · simp only [Option.some.injEq] at h
        have := slash_len (c.drop 2)
        rw [hm, List.length_drop] at this
        rw [← h]
        omega
      · cases h
    · cases hm
  · cases h
set_option maxHeartbeats 1000000 in
theorem under_c (c : Str) (w : World) (hc : c.length ≤ 10000) (hM : MaxL w) :
    Calls Tryd.prog 22 #[.string ⟨#[47, 47, 118, 105, 101, 119]⟩, .string (bs c)] w fun e w' => e = .returned (underE c) ∧ Calm w w' := by
  have h1 := comps1_c w hM
  unfold underE
  rcases hp : pathOf c with _ | l
  · have h2 : Hid (∀ W, Calm w W → Calls Tryd.prog 41 #[.string (bs c)] W fun e w' => e = .returned (.tuple #[.slice none 0 0, .int .i64 20]) ∧ Calm W w') := fun W hW => psplit_no c W (by omega) (hM.calm hW) hp
    clear hM hp
    go_enter Tryd.func22, Tryd.ntmps22
    go_wp2_with (first | (go_at_call 40; refine h1.mono ?_; rintro e w1 ⟨rfl, hc1, _⟩) | (go_at_call 41; refine (h2.out w1 hc1).mono ?_; rintro e w2 ⟨rfl, hc2⟩))
    go_ret2
    exact ⟨rfl, hc1.trans hc2⟩
  · have h2 : Hid (∀ W, Calm w W → Calls Tryd.prog 41 #[.string (bs c)] W fun e w' => e = .returned (.tuple #[.slice (some ⟨W.heap.size, 0, none⟩) l.length l.length, .int .i64 0]) ∧ Calm W w' ∧ StrsG w' (some ⟨W.heap.size, 0, none⟩) l) := fun W hW => psplit_yes c l W (by omega) (hM.calm hW) hp
    have hl2 := (pathOf_some hp).1
    obtain ⟨n, hn⟩ : ∃ n, l.length = n := ⟨_, rfl⟩
    have hnb : n ≤ 3000000 := by
      have := path_len hp
      omega
    have hv : Hid ((l.map bs).take 1 = [bs viewN].take 1 ↔ (l.getD 0 [] == viewN) = true) := by
      show _ ↔ _
      match l, hl2 with
      | a :: b :: r, _ =>
        simp only [List.map_cons, List.take_succ_cons, List.take_zero, List.getD_cons_zero, List.cons.injEq, and_true, beq_iff_eq]
        constructor
        · intro h
          have := congrArg ByteArray.toList h
          rwa [bs_toL, bs_toL] at this
        · intro h; rw [h]
    rw [hn] at hl2 h2
    have HN := Lib.hid hn
    clear hM hp hn
    go_enter Tryd.func22, Tryd.ntmps22
    go_wp2_with (first
      | (go_at_call 40; refine h1.mono ?_; rintro e w1 ⟨rfl, hc1, hs1⟩; have HS1 := Lib.hid hs1; clear hs1)
      | (go_at_call 41; refine (h2.out w1 hc1).mono ?_; rintro e w2 ⟨rfl, hc2, hs2⟩; have HS2 := Lib.hid hs2; clear hs2)
      | (go_at_call 42; refine (Tryd.slices_Equal_string w1.heap.size 0 1 n w.heap.size 0 1 1 (l.map bs) [bs viewN] w2 (by rw [List.length_map, HN.out]; omega) (by simp) (by omega) (by omega) ?_ ?_).mono ?_))
    · intro j hj
      rw [List.length_map] at hj
      have hs := HS2.out
      obtain ⟨b, o, y, hA, hb, hy, _, hcell⟩ := hs.get hj
      obtain ⟨rfl, rfl⟩ : w1.heap.size = b ∧ 0 = o := by simpa using hA
      rw [hcell]
      simp [List.getD_eq_getElem?_getD, hy]
    · intro j hj
      have hs := HS1.out.calm hc2
      have hj0 : j = 0 := by simpa using hj
      subst hj0
      obtain ⟨b, o, y, hA, hb, hy, _, hcell⟩ := hs.get (k := 0) (by simp)
      obtain ⟨rfl, rfl⟩ : w.heap.size = b ∧ 0 = o := by simpa using hA
      obtain rfl : viewN = y := by simpa using hy
      rw [hcell]
      rfl
    · rintro e w3 ⟨rfl, q, rfl⟩
      go_wp2
      go_ret2
      refine ⟨?_, (hc1.trans hc2).drewN q⟩
      show Ending.returned (.tuple #[.bool (decide ((l.map bs).take 1 = [bs viewN].take 1)), .int .i64 0]) = _
      rw [show decide ((l.map bs).take 1 = [bs viewN].take 1) = (l.getD 0 [] == viewN) by rw [Bool.eq_iff_iff, decide_eq_true_iff]; exact hv.out]
end Go.Proofs.YtlmclpbkhhgekaaDoor
set_option linter.unusedVariables false
set_option linter.unusedSimpArgs false
namespace Go.Proofs.YtlmclpbkhhgekaaDoor
open Go Go.RowKit Sy

theorem bs_dropk (p : Str) (k n : Nat) (hn : n = p.length) : (bs p).extract k n = bs (p.drop k) := by
  subst hn
  apply ByteArray.ext
  simp only [bs, ByteArray.data_extract]
  apply Array.ext'
  simp only [Array.toList_extract, List.extract_eq_take_drop]
  exact List.take_of_length_le (by simp)
theorem ownKind_c (a b : Int) (w : World) : Calls Tryd.prog 47 #[.int .i64 a, .int .i64 b] w fun e w' => e = .returned (.int .i64 (if a = 1 ∧ b = 1 then 1 else 2)) ∧ w = w' := by
  by_cases h1 : a = 1
  · by_cases h2 : b = 1
    · subst h1 h2
      go_enter Tryd.func47, Tryd.ntmps47
      go_wp2
      go_ret
      exact ⟨rfl, rfl⟩
    · subst h1
      have hb : (b == 1) = false := by simpa using h2
      go_enter Tryd.func47, Tryd.ntmps47
      go_wp2
      go_ret
      exact ⟨ret_int (by simp [h2]), rfl⟩
  · have hb : (a == 1) = false := by simpa using h1
    go_enter Tryd.func47, Tryd.ntmps47
    go_wp2
    go_ret
    exact ⟨ret_int (by simp [h1]), rfl⟩
theorem seeStep_none {s : Strm} {c : Str} {u : Int × Str} (h : decLine s.paths c = none) : seeStep s c u = (0, []) := by simp [seeStep, h]
theorem seeStep_excl {s : Strm} {c : Str} {u : Int × Str} {x : Line} (h : decLine s.paths c = some x) (h4 : x.kind = 4) : seeStep s c u = (0, []) := by simp [seeStep, h, h4]
theorem seeStep_up {s : Strm} {c : Str} {u : Int × Str} {x : Line} (h : decLine s.paths c = some x) (h4 : x.kind ≠ 4) (hu : u.1 = 3) : seeStep s c u = u := by simp [seeStep, h, h4, hu]
theorem seeStep_imp {s : Strm} {c : Str} {u : Int × Str} {x : Line} (h : decLine s.paths c = some x) (hk : x.kind = 3) (h0 : u.1 ≠ 0) (hu : u.1 ≠ 3) : seeStep s c u = (3, (fwd x.rule c).getD []) := by simp [seeStep, h, hk, h0, hu]
theorem seeStep_own {s : Strm} {c : Str} {u : Int × Str} {x : Line} (h : decLine s.paths c = some x) (hk : x.kind ≠ 3) (h4 : x.kind ≠ 4) (h0 : u.1 ≠ 0) (hu : u.1 ≠ 3) : seeStep s c u = (if x.kind = 1 ∧ u.1 = 1 then 1 else 2, 47 :: 47 :: s.name ++ c.drop 6) := by simp [seeStep, h, hk, h4, h0, hu]

set_option maxRecDepth 100000 in
set_option maxHeartbeats 8000000 in
theorem see_step (ss : List Strm) (F : Nat) (A : Option Addr) (n c i : Nat) (s : Str) (po : Option Nat) (u : Int × Str) (w : World) (hf : ForestAt w F A n c ss) (hi : i < n) (hpo : parentI ss i = po) (hs : s.length ≤ 10000) (h6 : 6 ≤ s.length) (hnm24 : (strm ss i).name.length ≤ 24) (hM : MaxL w)
    (hsm : ∀ x ∈ (strm ss i).paths, SmallV x.rule) (hu0 : po = none → u = (1, [])) (KU : Hid (∀ W p, Calm w W → po = some p → Calls Tryd.prog 23 #[.pointer (some ⟨F, 0, none⟩), .int .i64 p, .string (bs s)] W fun e w' => e = .returned (.tuple #[.int .i64 u.1, .string (bs u.2)]) ∧ Calm W w')) :
    Calls Tryd.prog 23 #[.pointer (some ⟨F, 0, none⟩), .int .i64 i, .string (bs s)] w fun e w' => e = .returned (.tuple #[.int .i64 (seeStep (strm ss i) s u).1, .string (bs (seeStep (strm ss i) s u).2)]) ∧ Calm w w' := by
  have hn := hf.hn
  have hlen := hf.strms.len
  rw [hn] at hlen
  have HF := Lib.hid hf
  obtain ⟨b, o, t, PA, pc, rfl, hb, hr, hat, hsu⟩ := hf.strms.get (k := i) (by rw [hn]; exact hi)
  have hlt := hf.lt
  have f0 := hf.c0
  have c0 := hat.c0
  have c1 := hat.c1
  have c2 := hat.c2
  have ht := strm_at hr
  rw [ht] at hnm24 hsm ⊢
  obtain ⟨nm, hnm⟩ : ∃ nm, t.name = nm := ⟨_, rfl⟩
  obtain ⟨pa, hpa⟩ : ∃ pa, t.parent = pa := ⟨_, rfl⟩
  obtain ⟨np, hnp⟩ : ∃ np, t.paths.length = np := ⟨_, rfl⟩
  rw [hnm] at c0 hnm24
  rw [hpa] at c1
  rw [hnp] at c2
  obtain ⟨w1, hw1⟩ : ∃ w1, w1 = w.alloc (.cells #[.string (bs nm), .string (bs pa), .slice PA np pc] 38) := ⟨_, rfl⟩
  have hc1 : Calm w w1 := by rw [hw1]; exact (Calm.refl w).alloc _
  have hbox : BoxS w1 w.heap.size nm pa PA np pc := by rw [hw1]; exact BoxS.new w nm pa PA np pc
  have KP : Hid (∀ W, Calm w1 W → Calls Tryd.prog 43 #[.pointer (some ⟨F, 0, none⟩), .int .i64 i] W fun e w' => e = .returned (parV po) ∧ Calm W w') := fun W hW => by
    rw [← hpo]
    exact parent_c ss F _ n c i W ((HF.out.calm hc1).calm hW) hi
  unfold parV at KP
  have KD0 : Hid (∀ W, Calm w1 W → Calls Tryd.prog 44 #[.slice PA np pc, .string (bs s)] W fun e w' => (∃ a, e = .returned (decV a (decLine t.paths s)) ∧ ∀ x, decLine t.paths s = some x → RuleU w' a x.rule ∧ x ∈ t.paths) ∧ Calm W w') := fun W hW => by
    refine (decide_c t.paths s PA np pc W ((hsu.lines.calm hc1).calm hW) hnp hs ((hM.calm hc1).calm hW) hsm).mono fun e w' ⟨⟨a, h1, h2⟩, h3⟩ => ⟨⟨a, h1, fun x hx => ⟨?_, (h2 x hx).2⟩⟩, h3⟩
    exact ((h2 x hx).1).calm h3
  have HW := Lib.hid hw1
  have HC := Lib.hid hc1
  have HB := Lib.hid hbox
  have HNm := Lib.hid hnm
  have HM := Lib.hid hM
  have HSm := Lib.hid hsm
  obtain ⟨u1, u2⟩ := u
  simp only at KU
  have KU1 : Hid (∀ W p, Calm w1 W → po = some p → Calls Tryd.prog 23 #[.pointer (some ⟨F, 0, none⟩), .int .i64 p, .string (bs s)] W fun e w' => e = .returned (.tuple #[.int .i64 u1, .string (bs u2)]) ∧ Calm W w') := fun W p hW hp => KU.out W p (HC.out.trans hW) hp
  have b2 := hbox.c2
  have hbl := hbox.lt
  have hss := bs_size s
  clear ht hnm hpa hnp hat hsu hr hf hn hw1 hc1 hbox hM hsm KU hpo
  cases po with
  | none =>
    obtain ⟨rfl, rfl⟩ : u1 = 1 ∧ u2 = [] := by have := hu0 rfl; simpa using this
    simp only [Option.getD_none, Option.isSome_none] at KP
    clear hu0
    obtain ⟨dl, hdl⟩ : ∃ dl, decLine t.paths s = dl := ⟨_, rfl⟩
    rw [hdl] at KD0
    have HDl := Lib.hid hdl
    clear hdl
    cases dl with
    | none =>
      have KD : Hid (∀ W, Calm w1 W → Calls Tryd.prog 44 #[.slice PA np pc, .string (bs s)] W fun e w' => e = .returned (.tuple #[.agg #[.int .i64 0, .slice none 0 0, .bool false, .slice none 0 0, .bool false], .bool false]) ∧ Calm W w') := fun W hW => (KD0.out W hW).mono fun e w' ⟨⟨a, h1, _⟩, h2⟩ => ⟨h1, h2⟩
      have hE : Hid (seeStep t s (1, []) = (0, [])) := seeStep_none HDl.out
      clear KD0
      go_enter Tryd.func23, Tryd.ntmps23
      go_wp2_with (first
        | (go_at_call 43; rw [← HW.out]; refine (KP.out _ (Calm.refl _)).mono ?_; rintro e w2 ⟨rfl, hc2⟩; have g0 := (HB.out.calm hc2).c2)
        | (go_at_call 44; refine (KD.out w2 hc2).mono ?_; rintro e w4 ⟨rfl, hc4⟩))
      go_ret2
      exact ⟨by rw [hE.out]; rfl, HC.out.trans (hc2.trans (hc4.alloc _))⟩
    | some x =>
      obtain ⟨κ, h0⟩ : ∃ κ, x.kind = κ := ⟨_, rfl⟩
      obtain ⟨npp, h1⟩ : ∃ npp, x.path.parts.length = npp := ⟨_, rfl⟩
      obtain ⟨nf, h2⟩ : ∃ nf, x.frm.parts.length = nf := ⟨_, rfl⟩
      obtain ⟨rp, h3⟩ : ∃ rp, x.path.rest = rp := ⟨_, rfl⟩
      obtain ⟨rf, h4⟩ : ∃ rf, x.frm.rest = rf := ⟨_, rfl⟩
      have KD : Hid (∀ W, Calm w1 W → Calls Tryd.prog 44 #[.slice PA np pc, .string (bs s)] W fun e w' => (∃ a : Pl, e = .returned (.tuple #[.agg #[.int .i64 κ, .slice a.AL npp a.cl, .bool rp, .slice a.AR nf a.cr, .bool rf], .bool true]) ∧ RuleU w' a x.rule ∧ x ∈ t.paths) ∧ Calm W w') := fun W hW => (KD0.out W hW).mono fun e w' ⟨⟨a, g1, g2⟩, g3⟩ => ⟨⟨a, by rw [← h0, ← h1, ← h2, ← h3, ← h4]; exact g1, g2 x rfl⟩, g3⟩
      have HX := Lib.hid (And.intro h0 (And.intro h1 (And.intro h2 (And.intro h3 h4))))
      clear KD0 h0 h1 h2 h3 h4
      go_enter Tryd.func23, Tryd.ntmps23
      by_cases hk4 : κ = 4
      · subst hk4
        have hE : Hid (seeStep t s ((1 : Int), []) = (0, [])) := seeStep_excl HDl.out HX.out.1
        go_wp2_with (first
          | (go_at_call 43; rw [← HW.out]; refine (KP.out _ (Calm.refl _)).mono ?_; rintro e w2 ⟨rfl, hc2⟩; have g0 := (HB.out.calm hc2).c2)
          | (go_at_call 44; refine (KD.out w2 hc2).mono ?_; rintro e w4 ⟨⟨a, rfl, hru⟩, hc4⟩; have HRU := Lib.hid hru; clear hru))
        go_ret2
        exact ⟨by rw [hE.out]; rfl, HC.out.trans (hc2.trans (hc4.alloc _))⟩
      · have hkb4 : (κ == 4) = false := by simpa using hk4
        by_cases hk3 : κ = 3
        · subst hk3
          have hE : Hid (seeStep t s ((1 : Int), []) = (3, (fwd x.rule s).getD [])) := seeStep_imp HDl.out HX.out.1 (by decide) (by decide)
          obtain ⟨fo, hfo⟩ : ∃ fo, fwd x.rule s = fo := ⟨_, rfl⟩
          rw [hfo] at hE
          have KF : ∀ (a : Pl) {W4 : World} (W : World), RuleU W4 a x.rule ∧ x ∈ t.paths → Calm w1 W → Calm W4 W → Calls Tryd.prog 45 #[.agg #[.bool false, .slice a.AL npp a.cl, .bool rp, .slice a.AR nf a.cr, .bool rf], .string (bs s)] W fun e w' => e = .returned (.tuple #[.string (bs (fo.getD [])), .bool fo.isSome]) ∧ Calm W w' := fun a W4 W hru hW hW4 => by
            have := fwd_c x.rule a s W (hru.1.calm hW4) (HSm.out x hru.2) hs ((HM.out.calm HC.out).calm hW)
            unfold fwdV ruleV at this
            rw [hfo, show x.rule.left.parts.length = npp from HX.out.2.1, show x.rule.right.parts.length = nf from HX.out.2.2.1, show x.rule.left.rest = rp from HX.out.2.2.2.1, show x.rule.right.rest = rf from HX.out.2.2.2.2] at this
            exact this
          clear hfo
          go_wp2_with (first
            | (go_at_call 43; rw [← HW.out]; refine (KP.out _ (Calm.refl _)).mono ?_; rintro e w2 ⟨rfl, hc2⟩; have g0 := (HB.out.calm hc2).c2)
            | (go_at_call 44; refine (KD.out w2 hc2).mono ?_; rintro e w4 ⟨⟨a, rfl, hru⟩, hc4⟩; have HRU := Lib.hid hru; clear hru)
            | (go_at_call 46; refine (imported_c a 3 npp nf rp rf _).mono ?_; rintro e w6 ⟨rfl, hc6⟩; have q0 := (BoxL.new w4 a 3 npp nf rp rf).c0; have r0 := ((BoxL.new w4 a 3 npp nf rp rf).calm hc6).c0)
            | (go_at_call 45; refine (KF a w6 HRU.out (hc2.trans (hc4.trans (((Calm.refl w4).alloc _).trans hc6))) (((Calm.refl w4).alloc _).trans hc6)).mono ?_; rintro e w7 ⟨rfl, hc7⟩; have r1 := (((BoxL.new w4 a 3 npp nf rp rf).calm hc6).calm hc7).c0))
          go_ret2
          exact ⟨by rw [hE.out]; rfl, HC.out.trans (hc2.trans (((hc4.alloc _).trans hc6).trans hc7))⟩
        · have hkb3 : (κ == 3) = false := by simpa using hk3
          have hE : Hid (seeStep t s ((1 : Int), []) = (if κ = 1 ∧ (1 : Int) = 1 then 1 else 2, 47 :: 47 :: t.name ++ s.drop 6)) := by have := seeStep_own (u := ((1 : Int), [])) HDl.out (by rw [HX.out.1]; exact hk3) (by rw [HX.out.1]; exact hk4) (by decide) (by decide); rw [HX.out.1] at this; exact this
          obtain ⟨kk, hkk⟩ : ∃ kk : Int, (if κ = 1 ∧ (1 : Int) = 1 then 1 else 2) = kk := ⟨_, rfl⟩
          have K0 : Hid (∀ W, Calls Tryd.prog 47 #[.int .i64 κ, .int .i64 1] W fun e w' => e = .returned (.int .i64 kk) ∧ W = w') := fun W => by
            have := ownKind_c κ 1 W
            rw [hkk] at this
            exact this
          rw [hkk] at hE
          clear hkk
          go_wp2_with (first
            | (go_at_call 43; rw [← HW.out]; refine (KP.out _ (Calm.refl _)).mono ?_; rintro e w2 ⟨rfl, hc2⟩; have g0 := (HB.out.calm hc2).c2)
            | (go_at_call 44; refine (KD.out w2 hc2).mono ?_; rintro e w4 ⟨⟨a, rfl, hru⟩, hc4⟩; have HRU := Lib.hid hru; clear hru))
          obtain ⟨w5, hw5⟩ : ∃ w5, w5 = w4.alloc (.cells #[.int .i64 κ, .slice a.AL npp a.cl, .bool rp, .slice a.AR nf a.cr, .bool rf] 35) := ⟨_, rfl⟩
          have hc5 : Calm w4 w5 := by rw [hw5]; exact (Calm.refl w4).alloc _
          have hb5 : BoxL w5 w4.heap.size a κ npp nf rp rf := by rw [hw5]; exact BoxL.new w4 a κ npp nf rp rf
          rw [← hw5]
          have hbs5 := HB.out.calm (hc2.trans (hc4.trans hc5))
          have K1 := fun p : CalmTo w5 => K0.out p.w
          have e0 := fun p : CalmTo w5 => p.cell hb5.c0 hb5.lt
          have e1 := fun p : CalmTo w5 => p.cell hbs5.c0 hbs5.lt
          have hcc : Calm w1 w5 := hc2.trans (hc4.trans hc5)
          have hns := bs_size nm
          have hx1 : (⟨#[47, 47]⟩ : ByteArray).size = 2 := rfl
          clear hw5 hb5 hbs5 hc5 hc4
          refine wp_region_calm (by kernel_rfl) (by kernel_rfl) ?_
          repeat (go_big_quiet_step ((go_at_call 47; exact calmOfL (K1 _))))
          refine wpQuiet_nil ?_
          intro w7 hc7
          go_wp2
          go_ret2
          refine ⟨?_, HC.out.trans (hcc.trans hc7)⟩
          show Ending.returned (.tuple #[.int .i64 kk, .string (⟨#[47, 47]⟩ ++ bs nm ++ (bs s).extract 6 s.length)]) = _
          rw [hE.out, HNm.out, bs_dropk s 6 _ rfl, bs_append, show bs (47 :: 47 :: nm) = ⟨#[47, 47]⟩ ++ bs nm from bs_append [47, 47] nm]
  | some p =>
    simp only [Option.getD_some, Option.isSome_some] at KP
    clear hu0
    obtain ⟨dl, hdl⟩ : ∃ dl, decLine t.paths s = dl := ⟨_, rfl⟩
    rw [hdl] at KD0
    have HDl := Lib.hid hdl
    clear hdl
    cases dl with
    | none =>
      have KD : Hid (∀ W, Calm w1 W → Calls Tryd.prog 44 #[.slice PA np pc, .string (bs s)] W fun e w' => e = .returned (.tuple #[.agg #[.int .i64 0, .slice none 0 0, .bool false, .slice none 0 0, .bool false], .bool false]) ∧ Calm W w') := fun W hW => (KD0.out W hW).mono fun e w' ⟨⟨a, h1, _⟩, h2⟩ => ⟨h1, h2⟩
      have hE : Hid (seeStep t s (u1, u2) = (0, [])) := seeStep_none HDl.out
      clear KD0
      have hub : u1 = 0 ∨ (u1 == 0) = false := by by_cases h : u1 = 0; exact .inl h; exact .inr (by simpa using h)
      go_enter Tryd.func23, Tryd.ntmps23
      rcases hub with rfl | hub
      all_goals
        go_wp2_with (first
          | (go_at_call 43; rw [← HW.out]; refine (KP.out _ (Calm.refl _)).mono ?_; rintro e w2 ⟨rfl, hc2⟩; have g0 := (HB.out.calm hc2).c2)
          | (go_at_call 23; refine (KU1.out w2 p hc2 rfl).mono ?_; rintro e w3 ⟨rfl, hc3⟩; have g1 := (HB.out.calm (hc2.trans hc3)).c2)
          | (go_at_call 44; refine (KD.out w3 (hc2.trans hc3)).mono ?_; rintro e w4 ⟨rfl, hc4⟩))
        go_ret2
        exact ⟨by rw [hE.out]; rfl, HC.out.trans ((hc2.trans hc3).trans (hc4.alloc _))⟩
    | some x =>
      obtain ⟨κ, h0⟩ : ∃ κ, x.kind = κ := ⟨_, rfl⟩
      obtain ⟨npp, h1⟩ : ∃ npp, x.path.parts.length = npp := ⟨_, rfl⟩
      obtain ⟨nf, h2⟩ : ∃ nf, x.frm.parts.length = nf := ⟨_, rfl⟩
      obtain ⟨rp, h3⟩ : ∃ rp, x.path.rest = rp := ⟨_, rfl⟩
      obtain ⟨rf, h4⟩ : ∃ rf, x.frm.rest = rf := ⟨_, rfl⟩
      have KD : Hid (∀ W, Calm w1 W → Calls Tryd.prog 44 #[.slice PA np pc, .string (bs s)] W fun e w' => (∃ a : Pl, e = .returned (.tuple #[.agg #[.int .i64 κ, .slice a.AL npp a.cl, .bool rp, .slice a.AR nf a.cr, .bool rf], .bool true]) ∧ RuleU w' a x.rule ∧ x ∈ t.paths) ∧ Calm W w') := fun W hW => (KD0.out W hW).mono fun e w' ⟨⟨a, g1, g2⟩, g3⟩ => ⟨⟨a, by rw [← h0, ← h1, ← h2, ← h3, ← h4]; exact g1, g2 x rfl⟩, g3⟩
      have HX := Lib.hid (And.intro h0 (And.intro h1 (And.intro h2 (And.intro h3 h4))))
      clear KD0 h0 h1 h2 h3 h4
      go_enter Tryd.func23, Tryd.ntmps23
      by_cases hu : u1 = 0
      · subst hu
        have hE : Hid (seeStep t s ((0 : Int), u2) = (0, [])) := seeStep_zero _ _ _ rfl
        go_wp2_with (first
          | (go_at_call 43; rw [← HW.out]; refine (KP.out _ (Calm.refl _)).mono ?_; rintro e w2 ⟨rfl, hc2⟩; have g0 := (HB.out.calm hc2).c2)
          | (go_at_call 23; refine (KU1.out w2 p hc2 rfl).mono ?_; rintro e w3 ⟨rfl, hc3⟩; have g1 := (HB.out.calm (hc2.trans hc3)).c2)
          | (go_at_call 44; refine (KD.out w3 (hc2.trans hc3)).mono ?_; rintro e w4 ⟨⟨a, rfl, hru⟩, hc4⟩; have HRU := Lib.hid hru; clear hru))
        go_ret2
        exact ⟨by rw [hE.out]; rfl, HC.out.trans ((hc2.trans hc3).trans (hc4.alloc _))⟩
      · have hub : (u1 == 0) = false := by simpa using hu
        by_cases hk4 : κ = 4
        · subst hk4
          have hE : Hid (seeStep t s (u1, u2) = (0, [])) := seeStep_excl HDl.out HX.out.1
          go_wp2_with (first
            | (go_at_call 43; rw [← HW.out]; refine (KP.out _ (Calm.refl _)).mono ?_; rintro e w2 ⟨rfl, hc2⟩; have g0 := (HB.out.calm hc2).c2)
            | (go_at_call 23; refine (KU1.out w2 p hc2 rfl).mono ?_; rintro e w3 ⟨rfl, hc3⟩; have g1 := (HB.out.calm (hc2.trans hc3)).c2)
            | (go_at_call 44; refine (KD.out w3 (hc2.trans hc3)).mono ?_; rintro e w4 ⟨⟨a, rfl, hru⟩, hc4⟩; have HRU := Lib.hid hru; clear hru))
          go_ret2
          exact ⟨by rw [hE.out]; rfl, HC.out.trans ((hc2.trans hc3).trans (hc4.alloc _))⟩
        · have hkb4 : (κ == 4) = false := by simpa using hk4
          by_cases hu3 : u1 = 3
          · have hE : Hid (seeStep t s (u1, u2) = (u1, u2)) := seeStep_up HDl.out (by rw [HX.out.1]; exact hk4) hu3
            subst hu3
            go_wp2_with (first
              | (go_at_call 43; rw [← HW.out]; refine (KP.out _ (Calm.refl _)).mono ?_; rintro e w2 ⟨rfl, hc2⟩; have g0 := (HB.out.calm hc2).c2)
              | (go_at_call 23; refine (KU1.out w2 p hc2 rfl).mono ?_; rintro e w3 ⟨rfl, hc3⟩; have g1 := (HB.out.calm (hc2.trans hc3)).c2)
              | (go_at_call 44; refine (KD.out w3 (hc2.trans hc3)).mono ?_; rintro e w4 ⟨⟨a, rfl, hru⟩, hc4⟩; have HRU := Lib.hid hru; clear hru))
            go_ret2
            exact ⟨by rw [hE.out]; rfl, HC.out.trans ((hc2.trans hc3).trans (hc4.alloc _))⟩
          · have hub3 : (u1 == 3) = false := by simpa using hu3
            by_cases hk3 : κ = 3
            · subst hk3
              have hE : Hid (seeStep t s (u1, u2) = (3, (fwd x.rule s).getD [])) := seeStep_imp HDl.out HX.out.1 (hu) (hu3)
              obtain ⟨fo, hfo⟩ : ∃ fo, fwd x.rule s = fo := ⟨_, rfl⟩
              rw [hfo] at hE
              have KF : ∀ (a : Pl) {W4 : World} (W : World), RuleU W4 a x.rule ∧ x ∈ t.paths → Calm w1 W → Calm W4 W → Calls Tryd.prog 45 #[.agg #[.bool false, .slice a.AL npp a.cl, .bool rp, .slice a.AR nf a.cr, .bool rf], .string (bs s)] W fun e w' => e = .returned (.tuple #[.string (bs (fo.getD [])), .bool fo.isSome]) ∧ Calm W w' := fun a W4 W hru hW hW4 => by
                have := fwd_c x.rule a s W (hru.1.calm hW4) (HSm.out x hru.2) hs ((HM.out.calm HC.out).calm hW)
                unfold fwdV ruleV at this
                rw [hfo, show x.rule.left.parts.length = npp from HX.out.2.1, show x.rule.right.parts.length = nf from HX.out.2.2.1, show x.rule.left.rest = rp from HX.out.2.2.2.1, show x.rule.right.rest = rf from HX.out.2.2.2.2] at this
                exact this
              clear hfo
              go_wp2_with (first
                | (go_at_call 43; rw [← HW.out]; refine (KP.out _ (Calm.refl _)).mono ?_; rintro e w2 ⟨rfl, hc2⟩; have g0 := (HB.out.calm hc2).c2)
                | (go_at_call 23; refine (KU1.out w2 p hc2 rfl).mono ?_; rintro e w3 ⟨rfl, hc3⟩; have g1 := (HB.out.calm (hc2.trans hc3)).c2)
                | (go_at_call 44; refine (KD.out w3 (hc2.trans hc3)).mono ?_; rintro e w4 ⟨⟨a, rfl, hru⟩, hc4⟩; have HRU := Lib.hid hru; clear hru)
                | (go_at_call 46; refine (imported_c a 3 npp nf rp rf _).mono ?_; rintro e w6 ⟨rfl, hc6⟩; have q0 := (BoxL.new w4 a 3 npp nf rp rf).c0; have r0 := ((BoxL.new w4 a 3 npp nf rp rf).calm hc6).c0)
                | (go_at_call 45; refine (KF a w6 HRU.out ((hc2.trans hc3).trans (hc4.trans (((Calm.refl w4).alloc _).trans hc6))) (((Calm.refl w4).alloc _).trans hc6)).mono ?_; rintro e w7 ⟨rfl, hc7⟩; have r1 := (((BoxL.new w4 a 3 npp nf rp rf).calm hc6).calm hc7).c0))
              go_ret2
              exact ⟨by rw [hE.out]; rfl, HC.out.trans ((hc2.trans hc3).trans (((hc4.alloc _).trans hc6).trans hc7))⟩
            · have hkb3 : (κ == 3) = false := by simpa using hk3
              have hE : Hid (seeStep t s (u1, u2) = (if κ = 1 ∧ u1 = 1 then 1 else 2, 47 :: 47 :: t.name ++ s.drop 6)) := by have := seeStep_own (u := (u1, u2)) HDl.out (by rw [HX.out.1]; exact hk3) (by rw [HX.out.1]; exact hk4) (hu) (hu3); rw [HX.out.1] at this; exact this
              obtain ⟨kk, hkk⟩ : ∃ kk : Int, (if κ = 1 ∧ u1 = 1 then 1 else 2) = kk := ⟨_, rfl⟩
              have K0 : Hid (∀ W, Calls Tryd.prog 47 #[.int .i64 κ, .int .i64 u1] W fun e w' => e = .returned (.int .i64 kk) ∧ W = w') := fun W => by
                have := ownKind_c κ u1 W
                rw [hkk] at this
                exact this
              rw [hkk] at hE
              clear hkk
              go_wp2_with (first
                | (go_at_call 43; rw [← HW.out]; refine (KP.out _ (Calm.refl _)).mono ?_; rintro e w2 ⟨rfl, hc2⟩; have g0 := (HB.out.calm hc2).c2)
                | (go_at_call 23; refine (KU1.out w2 p hc2 rfl).mono ?_; rintro e w3 ⟨rfl, hc3⟩; have g1 := (HB.out.calm (hc2.trans hc3)).c2)
                | (go_at_call 44; refine (KD.out w3 (hc2.trans hc3)).mono ?_; rintro e w4 ⟨⟨a, rfl, hru⟩, hc4⟩; have HRU := Lib.hid hru; clear hru))
              obtain ⟨w5, hw5⟩ : ∃ w5, w5 = w4.alloc (.cells #[.int .i64 κ, .slice a.AL npp a.cl, .bool rp, .slice a.AR nf a.cr, .bool rf] 35) := ⟨_, rfl⟩
              have hc5 : Calm w4 w5 := by rw [hw5]; exact (Calm.refl w4).alloc _
              have hb5 : BoxL w5 w4.heap.size a κ npp nf rp rf := by rw [hw5]; exact BoxL.new w4 a κ npp nf rp rf
              rw [← hw5]
              have hbs5 := HB.out.calm ((hc2.trans hc3).trans (hc4.trans hc5))
              have K1 := fun p : CalmTo w5 => K0.out p.w
              have e0 := fun p : CalmTo w5 => p.cell hb5.c0 hb5.lt
              have e1 := fun p : CalmTo w5 => p.cell hbs5.c0 hbs5.lt
              have hcc : Calm w1 w5 := (hc2.trans hc3).trans (hc4.trans hc5)
              have hns := bs_size nm
              have hx1 : (⟨#[47, 47]⟩ : ByteArray).size = 2 := rfl
              clear hw5 hb5 hbs5 hc5 hc4
              refine wp_region_calm (by kernel_rfl) (by kernel_rfl) ?_
              repeat (go_big_quiet_step ((go_at_call 47; exact calmOfL (K1 _))))
              refine wpQuiet_nil ?_
              intro w7 hc7
              go_wp2
              go_ret2
              refine ⟨?_, HC.out.trans (hcc.trans hc7)⟩
              show Ending.returned (.tuple #[.int .i64 kk, .string (⟨#[47, 47]⟩ ++ bs nm ++ (bs s).extract 6 s.length)]) = _
              rw [hE.out, HNm.out, bs_dropk s 6 _ rfl, bs_append, show bs (47 :: 47 :: nm) = ⟨#[47, 47]⟩ ++ bs nm from bs_append [47, 47] nm]
end Go.Proofs.YtlmclpbkhhgekaaDoor
set_option linter.unusedVariables false
set_option linter.unusedSimpArgs false
namespace Go.Proofs.YtlmclpbkhhgekaaDoor
open Go Go.RowKit Sy

/-- Streams as the laws look at them. -/
def SmallSS (ss : List Strm) : Prop := ∀ st ∈ ss, ∀ x ∈ st.paths, SmallV x.rule
theorem SmallSS.at_ {ss : List Strm} (h : SmallSS ss) {i : Nat} (hi : i < ss.length) : ∀ x ∈ (strm ss i).paths, SmallV x.rule := h _ (List.mem_of_getElem? (at_strm hi))

theorem see_c (ss : List Strm) (F : Nat) (A : Option Addr) (n c i : Nat) (s : Str) (hn : ss.length = n) (hg : Sy.Good ss) (hsm : SmallSS ss) (hs : s.length ≤ 10000) (h6 : 6 ≤ s.length) (hi : i < n) : ∀ w, ForestAt w F A n c ss → MaxL w →
    Calls Tryd.prog 23 #[.pointer (some ⟨F, 0, none⟩), .int .i64 i, .string (bs s)] w fun e w' => e = .returned (.tuple #[.int .i64 (see ss i s).1, .string (bs (see ss i s).2)]) ∧ Calm w w' := by
  refine hg.above_ind (P := fun i => ∀ w, ForestAt w F A n c ss → MaxL w → Calls Tryd.prog 23 #[.pointer (some ⟨F, 0, none⟩), .int .i64 i, .string (bs s)] w fun e w' => e = .returned (.tuple #[.int .i64 (see ss i s).1, .string (bs (see ss i s).2)]) ∧ Calm w w') ?_ ?_ i (by omega)
  · intro i hi hp w hf hM
    rw [see_none hg hp]
    exact see_step ss F A n c i s none (1, []) w hf (by omega) hp hs h6 (ownErr_zero (hg.own i hi)).2.1 hM (hsm.at_ hi) (fun _ => rfl) (fun W p _ h => by cases h)
  · intro i p hi hp ih w hf hM
    rw [see_some hg hp]
    exact see_step ss F A n c i s (some p) (see ss p s) w hf (by omega) hp hs h6 (ownErr_zero (hg.own i hi)).2.1 hM (hsm.at_ hi) (fun h => by cases h) (fun W q hW h => by
      cases h
      exact ih W (hf.calm hW) (hM.calm hW))

/-- What find hands back. -/
def FindEnd (ss : List Strm) (nm : Str) (A : Option Addr) (n c : Nat) (e : Ending) (w' : World) : Prop :=
  (∃ x, x ≠ 0 ∧ readyE ss nm = x ∧ e = .returned (.tuple #[.pointer none, .int .i64 0, .int .i64 x])) ∨
  (∃ F i, readyE ss nm = 0 ∧ Sy.Good ss ∧ findI ss nm = some i ∧ e = .returned (.tuple #[.pointer (some ⟨F, 0, none⟩), .int .i64 (i : Nat), .int .i64 0]) ∧ ForestAt w' F A n c ss)
theorem ready_bad {ss : List Strm} {nm : Str} (h : (strErr ss).2 ≠ 0) : readyE ss nm = (strErr ss).2 := by simp [readyE, h]
theorem ready_none {ss : List Strm} {nm : Str} (h : (strErr ss).2 = 0) (hf : findI ss nm = none) : readyE ss nm = 86 := by simp [readyE, h, hf]
theorem ready_ok {ss : List Strm} {nm : Str} {i : Nat} (h : (strErr ss).2 = 0) (hf : findI ss nm = some i) : readyE ss nm = 0 := by simp [readyE, h, hf]

theorem results_tmp3 {fn : Func} {p q r : Tmp} (h : fn.results = #[.tmp p, .tmp q, .tmp r]) (tmps : Array Value) (P : Program) (w : World) : (results fn tmps).run P w = .ok (.tuple #[tmps.getD p undef, tmps.getD q undef, tmps.getD r undef]) w := by
  simp only [results, h]
  simp [Sem.run_bind, Result.andThen]

set_option maxHeartbeats 2000000 in
theorem find_c (ss : List Strm) (nm : Str) (A : Option Addr) (n c : Nat) (w : World) (hs : StrmsU w A ss) (hn : ss.length = n) (hnm : nm.length ≤ 1048576) :
    Calls Tryd.prog 21 #[.slice A n c, .string (bs nm)] w fun e w' => FindEnd ss nm A n c e w' ∧ Calm w w' := by
  have hk := strcheck_c ss A n c w hs hn
  have KF : Hid (∀ W, Calm w W → Calls Tryd.prog 24 #[.slice A n c] W fun e w' => (∃ F, e = .returned (.pointer (some ⟨F, 0, none⟩)) ∧ ForestAt w' F A n c ss) ∧ Calm W w') := fun W hW => forest_c ss A n c W (hs.calm hW) hn
  obtain ⟨ix, hix⟩ : ∃ ix, (strErr ss).1 = ix := ⟨_, rfl⟩
  obtain ⟨x, hx⟩ : ∃ x, (strErr ss).2 = x := ⟨_, rfl⟩
  rw [hix, hx] at hk
  have HX := Lib.hid hx
  clear hix hx hs hn
  go_enter Tryd.func21, Tryd.ntmps21
  by_cases hx0 : x = 0
  · subst hx0
    go_wp2_with (first
      | (go_at_call 12; refine hk.mono ?_; rintro e w1 ⟨rfl, hc1⟩)
      | (go_at_call 24; refine (KF.out w1 hc1).mono ?_; rintro e w2 ⟨⟨F, rfl, hf⟩, hc2⟩; obtain ⟨B, hB, hI⟩ := hf.idx; have hrun := (hI.2 w2 nm (Calm.refl w2) hnm).1; have HF := Lib.hid hf; have HI := Lib.hid hI; clear hf hI; obtain ⟨fi, hfi⟩ : ∃ fi, findI ss nm = fi := ⟨_, rfl⟩; rw [hfi] at hrun; have HFi := Lib.hid hfi; clear hfi; rcases fi with _ | i; simp only [Option.getD_none, Option.isSome_none, Int.cast_ofNat_Int] at hrun; (rotate_left; simp only [Option.getD_some, Option.isSome_some] at hrun; rotate_right)))
    · refine bodyPost_ret (results_tmp3 rfl _ _ _) rfl ?_
      exact ⟨.inl ⟨86, by decide, ready_none HX.out HFi.out, rfl⟩, hc1.trans hc2⟩
    · refine bodyPost_ret (results_tmp3 rfl _ _ _) rfl ?_
      exact ⟨.inr ⟨F, i, ready_ok HX.out HFi.out, good_iff.1 HX.out, HFi.out, rfl, HF.out⟩, hc1.trans hc2⟩
  · have hxb : (x != 0) = true := by simpa using hx0
    have H0 := Lib.hid hx0
    clear hx0
    go_wp2_with (go_at_call 12; refine hk.mono ?_; rintro e w1 ⟨rfl, hc1⟩)
    refine bodyPost_ret (results_tmp3 rfl _ _ _) rfl ?_
    exact ⟨.inl ⟨x, H0.out, by rw [ready_bad (by rw [HX.out]; exact H0.out), HX.out], rfl⟩, hc1⟩

/-- What Locate says. -/
def locE (ss : List Strm) (nm s : Str) : Int × Str × Int := if readyE ss nm = 0 then ((locI ss ((findI ss nm).getD 0) s).1, (locI ss ((findI ss nm).getD 0) s).2, 0) else (0, [], readyE ss nm)

set_option maxHeartbeats 2000000 in
theorem locate_c (ss : List Strm) (nm s : Str) (A : Option Addr) (n c : Nat) (w : World) (hs : StrmsU w A ss) (hn : ss.length = n) (hnm : nm.length ≤ 1048576) (hsl : s.length ≤ 10000) (hsm : SmallSS ss) (hM : MaxL w) :
    Calls Tryd.prog 11 #[.slice A n c, .string (bs nm), .string (bs s)] w fun e w' => e = .returned (.tuple #[.int .i64 (locE ss nm s).1, .string (bs (locE ss nm s).2.1), .int .i64 (locE ss nm s).2.2]) ∧ Calm w w' := by
  have hk := find_c ss nm A n c w hs hn hnm
  have HN := Lib.hid hn
  have HM := Lib.hid hM
  have HSm := Lib.hid hsm
  have KU : Hid (∀ W, Calm w W → Calls Tryd.prog 22 #[.string ⟨#[47, 47, 118, 105, 101, 119]⟩, .string (bs s)] W fun e w' => e = .returned (underE s) ∧ Calm W w') := fun W hW => under_c s W hsl (hM.calm hW)
  clear hs hn hM hsm
  go_enter Tryd.func11, Tryd.ntmps11
  go_wp2_with fail
  refine hk.mono ?_
  rintro e w1 ⟨hend, hc1⟩
  rcases hend with ⟨x, hx0, hr, rfl⟩ | ⟨F, i, hr, hg, hfi, rfl, hf⟩
  · have hxb : (x != 0) = true := by simpa using hx0
    have hE : Hid (locE ss nm s = (0, [], x)) := by
      show _ = _
      rw [locE, hr, if_neg hx0]
    clear hx0 hr hk
    go_wp2_with fail
    refine bodyPost_ret (results_tmp3 rfl _ _ _) rfl ?_
    exact ⟨by rw [hE.out]; rfl, hc1⟩
  · have hE : Hid (locE ss nm s = ((locI ss i s).1, (locI ss i s).2, 0)) := by
      show _ = _
      rw [locE, if_pos hr, hfi]
      rfl
    have HF := Lib.hid hf
    have HG := Lib.hid hg
    have hil : i < n := by rw [← HN.out]; exact findI_lt hfi
    have HC1 := Lib.hid hc1
    clear hr hfi hf hg hk
    obtain ⟨uv, huv⟩ : ∃ uv, underV s = uv := ⟨_, rfl⟩
    cases uv with
    | false =>
      have hE2 : Hid (locE ss nm s = (0, [], 0)) := by
        show _ = _
        rw [hE.out, locI, huv]
        rfl
      rcases underE_no huv with h | h
      · rw [h] at KU
        clear h huv hE
        go_wp2_with (go_at_call 22; refine (KU.out w1 hc1).mono ?_; rintro e w2 ⟨rfl, hc2⟩)
        refine bodyPost_ret (results_tmp3 rfl _ _ _) rfl ?_
        exact ⟨by rw [hE2.out]; rfl, HC1.out.trans hc2⟩
      · rw [h] at KU
        clear h huv hE
        go_wp2_with (go_at_call 22; refine (KU.out w1 hc1).mono ?_; rintro e w2 ⟨rfl, hc2⟩)
        refine bodyPost_ret (results_tmp3 rfl _ _ _) rfl ?_
        exact ⟨by rw [hE2.out]; rfl, HC1.out.trans hc2⟩
    | true =>
      have hE2 : Hid (locE ss nm s = ((see ss i s).1, (see ss i s).2, 0)) := by
        show _ = _
        rw [hE.out, locI, huv]
        rfl
      rw [underE_yes huv] at KU
      have h6 : 6 ≤ s.length := by
        obtain ⟨_, _, _, _, _, h, _⟩ := under_form huv
        have := congrArg List.length h
        rw [List.length_take] at this
        simp [viewN] at this
        omega
      obtain ⟨k, hk⟩ : ∃ k, (see ss i s).1 = k := ⟨_, rfl⟩
      obtain ⟨src, hsrc⟩ : ∃ src, (see ss i s).2 = src := ⟨_, rfl⟩
      have KS : Hid (∀ W, Calm w1 W → Calls Tryd.prog 23 #[.pointer (some ⟨F, 0, none⟩), .int .i64 i, .string (bs s)] W fun e w' => e = .returned (.tuple #[.int .i64 k, .string (bs src)]) ∧ Calm W w') := fun W hW => by
        have := see_c ss F A n c i s HN.out HG.out HSm.out hsl h6 hil W (HF.out.calm hW) (HM.out.calm (HC1.out.trans hW))
        rw [hk, hsrc] at this
        exact this
      rw [hk, hsrc] at hE2
      clear hk hsrc huv hE h6
      go_wp2_with (first
        | (go_at_call 22; refine (KU.out w1 hc1).mono ?_; rintro e w2 ⟨rfl, hc2⟩)
        | (go_at_call 23; refine (KS.out w2 hc2).mono ?_; rintro e w3 ⟨rfl, hc3⟩))
      refine bodyPost_ret (results_tmp3 rfl _ _ _) rfl ?_
      exact ⟨by rw [hE2.out]; rfl, HC1.out.trans (hc2.trans hc3)⟩
end Go.Proofs.YtlmclpbkhhgekaaDoor
