/- Walks: the reference's Parts, Path, Match (the last by program out of the program's Match: gen_rmatch.py). -/
import Derived.Test.YtmfjppaeddbdaaaGreatDoorZWalkI
import Derived.Test.YtmfjppaeddbdaaaGreatDoorZMatch
import Derived.Test.YtmfjppaeddbdaaaGreatDoorZWalkD
set_option linter.unusedVariables false
set_option linter.unusedSimpArgs false
namespace Go.Proofs.YtmfjppaeddbdaaaGreatDoor
open Go Go.RowKit Sy

theorem comp_not_star {l : Str} (h : comp l = true) : isStar l = false := by
  cases l with
  | nil => rfl
  | cons c t =>
    simp only [comp, Bool.and_eq_true] at h
    rcases hs : isStar (c :: t) with _ | _
    · rfl
    · have : c = 42 := by simpa [isStar] using hs
      subst this
      simp [isByte] at h
theorem starOk_iff {l : Str} (h : partOk l = true) : starOk l = isStar l := by
  rcases hs : starOk l with _ | _
  · have : comp l = true := by simpa [partOk, hs] using h
    rw [comp_not_star this]
  · rw [starOk_star hs]
theorem comp_take {c : Str} (h : comp c = true) (k : Nat) : comp (c.take k) = decide (0 < k) := by
  cases c with
  | nil => cases h
  | cons a t =>
    cases k with
    | zero => rfl
    | succ k =>
      simp only [comp, Bool.and_eq_true] at h
      simp only [List.take_succ_cons, comp, h.1.1, h.1.2, Bool.true_and]
      have : (t.take k).all isByte = true := List.all_eq_true.2 fun b hb => List.all_eq_true.1 h.2 b (List.mem_of_mem_take hb)
      simp [this]

theorem star_v (l : Str) (b : Bool) (t : Str) (w : World) (hl : l.length ≤ 16384) (hb : starOk l = b) (ht : starSuf l = t) : Calls Tryz.prog 97 #[.string (bs l)] w fun e w' => e = .returned (.tuple #[.string (bs t), .bool b]) ∧ w = w' := by
  have := star_c l w (by omega)
  rw [hb, ht] at this
  exact this
def rcapt (part c : Str) : Str := if isStar part && endsWith c part.tail then c.take (c.length - part.tail.length) else []

theorem bs_take (c : Str) (k : Nat) (h : k ≤ c.length) : (bs c).extract 0 k = bs (c.take k) := by
  apply ByteArray.ext
  apply Array.ext'
  rw [ByteArray.data_extract, Array.toList_extract, bs_toList, bs_toList]
  simp [List.extract_eq_take_drop]

set_option maxHeartbeats 1000000 in
theorem cap_c (part c : Str) (w : World) (hp : part.length ≤ 16384) (hc : c.length ≤ 20000) (hpo : partOk part = true) (hco : comp c = true) :
    Calls Tryz.prog 111 #[.string (bs part), .string (bs c)] w fun e w' => e = .returned (.tuple #[.string (bs (rcapt part c)), .bool (mtch part c)]) ∧ w = w' := by
  have hso := starOk_iff hpo
  rcases hs : isStar part with _ | _
  · have hv : Hid ((rcapt part c, mtch part c) = ([], part == c)) := by show (_, _) = _; simp [rcapt, mtch, hs]
    have hst := star_v part false [] w hp (by rw [hso, hs]) (by rw [starSuf, hso, hs]; rfl)
    clear hso
    go_enter Tryz.func111, Tryz.ntmps111
    go_wp2_with (go_at_call 97; refine hst.mono ?_; rintro e w' ⟨rfl, rfl⟩)
    go_ret2
    have h1 := congrArg Prod.fst hv.out
    have h2 := congrArg Prod.snd hv.out
    dsimp only at h1 h2
    refine ⟨?_, rfl⟩
    rw [h1, h2]
    rfl
  · have hst := star_v part true part.tail w hp (by rw [hso, hs]) (by rw [starSuf, hso, hs]; rfl)
    obtain ⟨t, ht⟩ : ∃ t, part.tail = t := ⟨_, rfl⟩
    have htl : t.length ≤ 16384 := by rw [← ht, List.length_tail]; omega
    rw [ht] at hst
    have HT := Lib.hid ht
    clear hso ht
    have hsf := hasSuffix_c c t w (by omega)
    rcases he : endsWith c t with _ | _
    · have hv : Hid ((rcapt part c, mtch part c) = ([], false)) := by show (_, _) = _; simp [rcapt, mtch, hs, HT.out, he]
      rw [he] at hsf
      go_enter Tryz.func111, Tryz.ntmps111
      go_wp2_with (first | (go_at_call 97; refine hst.mono ?_; rintro e w' ⟨rfl, rfl⟩) | (go_at_call 129; refine hsf.mono ?_; rintro e w' ⟨rfl, rfl⟩))
      go_ret2
      have h1 := congrArg Prod.fst hv.out
      have h2 := congrArg Prod.snd hv.out
      dsimp only at h1 h2
      refine ⟨?_, rfl⟩
      rw [h1, h2]
      rfl
    · have hle : t.length ≤ c.length := (endsWith_iff.1 he).length_le
      have hv : Hid ((rcapt part c, mtch part c) = (c.take (c.length - t.length), comp (c.take (c.length - t.length)))) := by
        show (_, _) = _
        rw [comp_take hco]
        simp only [rcapt, mtch, hs, HT.out, he, Bool.and_self, if_true, Bool.true_and]
        congr 1
        rw [decide_eq_decide]
        omega
      rw [he] at hsf
      have hx := bs_take c (c.length - t.length) (by omega)
      have hcm := rcomp_c (c.take (c.length - t.length)) w (by rw [List.length_take]; omega)
      have hi : ((c.length : Int) - (t.length : Int)) = ((c.length - t.length : Nat) : Int) := by omega
      go_enter Tryz.func111, Tryz.ntmps111
      go_wp2_with (first | (go_at_call 97; refine hst.mono ?_; rintro e w' ⟨rfl, rfl⟩) | (go_at_call 129; refine hsf.mono ?_; rintro e w' ⟨rfl, rfl⟩) | (go_at_call 95; refine hcm.mono ?_; rintro e w' ⟨rfl, rfl⟩))
      go_ret2
      have h1 := congrArg Prod.fst hv.out
      have h2 := congrArg Prod.snd hv.out
      dsimp only at h1 h2
      refine ⟨?_, rfl⟩
      rw [h1, h2]
      rfl
def goodPat (p : Pat) : Prop := ∀ l ∈ p.parts, partOk l = true
theorem goodPat_at {p : Pat} (h : goodPat p) (i : Nat) : partOk (pAt p i) = true := by
  rcases Nat.lt_or_ge i p.parts.length with hi | hi
  · have : pAt p i = p.parts[i] := by simp [pAt, List.getD_eq_getElem?_getD, List.getElem?_eq_getElem hi]
    rw [this]; exact h _ (List.getElem_mem hi)
  · rw [pAt_out hi]; rfl
theorem goodPat_of {p : Pat} (h : patErr p = 0) : goodPat p := by
  intro l hl
  obtain ⟨j, hj, e⟩ := List.mem_iff_getElem.1 hl
  rcases hp : partOk l with _ | _
  · have hg : good j l = false := by
      unfold good
      split
      · simp only [partOk, Bool.or_eq_false_iff] at hp; exact hp.1
      · exact hp
    rw [patErr_bad (by rw [List.getElem?_eq_getElem hj, e]) hg] at h
    omega
  · rfl

end Go.Proofs.YtmfjppaeddbdaaaGreatDoor
set_option linter.unusedVariables false
set_option linter.unusedSimpArgs false
namespace Go.Proofs.YtmfjppaeddbdaaaGreatDoor
open Go Go.RowKit Sy

theorem pre47_c (p : Str) (w : World) : Calls Tryz.prog 120 #[.string (bs p), .string ⟨#[47, 47]⟩] w fun e w' => e = .returned (.bool (decide (p.take 2 = [47, 47]))) ∧ w = w' :=
  (Tryz.strings_HasPrefix (bs p) ⟨#[47, 47]⟩ w).mono fun _ _ ⟨he, hw⟩ => ⟨by rw [he, bs_toList, ← prefix47], hw.symm⟩
theorem bs_drop2 (p : Str) (n : Nat) (hn : n = p.length) : (bs p).extract 2 n = bs (p.drop 2) := by
  subst hn
  apply ByteArray.ext
  apply Array.ext'
  rw [ByteArray.data_extract, Array.toList_extract, bs_toList, bs_toList]
  simp [List.extract_eq_take_drop, List.take_of_length_le]

def PartsEnd (p : Str) (w : World) (e : Ending) (w' : World) : Prop :=
  (∃ l, pathParts p = some l ∧ l = slash (p.drop 2) ∧ e = .returned (.tuple #[.slice (some ⟨w.heap.size, 0, none⟩) l.length l.length, .bool true]) ∧ StrsG w' (some ⟨w.heap.size, 0, none⟩) l) ∨
    (pathParts p = none ∧ e = .returned (.tuple #[.slice none 0 0, .bool false]))
theorem parts_bad {p : Str} (h : (slash (p.drop 2)).all comp = false) : pathParts p = none := by
  rw [pathParts, if_neg (fun hh => by rw [h] at hh; exact absurd hh.2 (by simp))]
theorem parts_pre {p : Str} (h : p.take 2 ≠ [47, 47]) : pathParts p = none := by
  rw [pathParts, if_neg (fun hh => h hh.1)]

set_option maxHeartbeats 1000000 in
theorem rparts_c (p : Str) (w : World) (hp : p.length ≤ 3000000) (hM : MaxL w) :
    Calls Tryz.prog 137 #[.string (bs p)] w fun e w' => PartsEnd p w e w' ∧ Calm w w' := by
  have hpre := pre47_c p w
  by_cases h2 : p.take 2 = [47, 47]
  · rw [decide_eq_true h2] at hpre
    have hsp := split_c (p.drop 2) w (by rw [List.length_drop]; omega) hM
    have hsl := slash_len (p.drop 2)
    rw [List.length_drop] at hsl
    have hx := bs_drop2 p p.length rfl
    have hp2 : 2 ≤ p.length := by
      have := congrArg List.length h2
      rw [List.length_take] at this
      simp at this
      omega
    obtain ⟨ls, hls⟩ : ∃ ls, slash (p.drop 2) = ls := ⟨_, rfl⟩
    obtain ⟨n, hn⟩ : ∃ n, ls.length = n := ⟨_, rfl⟩
    rw [hls, hn] at hsp hsl
    have Hls := Lib.hid hls
    have Hn := Lib.hid hn
    have H2 := Lib.hid h2
    have hn3 : n ≤ 3000000 := by omega
    clear hls hn h2 hM
    go_enter Tryz.func137, Tryz.ntmps137
    go_wp2_with (first | (go_at_call 120; refine hpre.mono ?_; rintro e w' ⟨rfl, rfl⟩) | (go_at_call 113; refine hsp.mono ?_; rintro e w2 ⟨rfl, hc2, hst2⟩))
    have HS := Lib.hid hst2
    have HC := Lib.hid hc2
    clear hst2 hc2 hsp hpre hx
    go_loop [15] (fun q => ∃ k : Nat, k ≤ n ∧ q = .int .i64 k ∧ Hid ((ls.take k).all comp = true)) (fun q => n - (intOf q).toNat)
    case atStart => exact ⟨0, Nat.zero_le _, rfl, rfl⟩
    case round =>
      obtain ⟨k, hk, rfl, HA⟩ := hrel
      by_cases hlt : k < n
      · obtain ⟨b, o, l, hA, hb, hl, hll, hcell⟩ := HS.out.get (k := k) (by rw [Hn.out]; exact hlt)
        obtain ⟨rfl, rfl⟩ : w.heap.size = b ∧ 0 = o := by simpa using hA
        have HL := Lib.hid hl
        clear hl hA
        rw [Nat.zero_add] at hcell
        rcases hco : comp l with _ | _
        · go_wp2_with (go_at_call 95; refine (rcomp_v _ _ _ hll hco).mono ?_; rintro e w' ⟨rfl, rfl⟩)
          go_ret2
          exact ⟨.inr ⟨parts_bad (by rw [Hls.out]; exact allc_stop HL.out hco), rfl⟩, HC.out⟩
        · go_wp2_with (go_at_call 95; refine (rcomp_v _ _ _ hll hco).mono ?_; rintro e w' ⟨rfl, rfl⟩)
          go_round
          case rel => exact ⟨k + 1, by omega, by go_num, allc_step HL.out HA.out hco⟩
          case measure => simp [intOf]; omega
      · go_wp2
        go_ret2
        have hall : ls.all comp = true := by
          have := HA.out
          rw [List.take_of_length_le (by rw [Hn.out]; omega)] at this
          exact this
        exact ⟨.inl ⟨ls, by rw [pathParts, if_pos ⟨H2.out, by rw [Hls.out]; exact hall⟩, Hls.out], Hls.out.symm, (by rw [Hn.out]; rfl), HS.out⟩, HC.out⟩
  · rw [decide_eq_false h2] at hpre
    have Hv : Hid (pathParts p = none) := parts_pre h2
    clear h2
    go_enter Tryz.func137, Tryz.ntmps137
    go_wp2_with (go_at_call 120; refine hpre.mono ?_; rintro e w' ⟨rfl, rfl⟩)
    go_ret2
    exact ⟨.inr ⟨Hv.out, rfl⟩, Calm.refl w⟩

theorem rpath_yes (p : Str) (l : List Str) (w : World) (hp : p.length ≤ 3000000) (hM : MaxL w) (h : pathOf p = some l) :
    Calls Tryz.prog 110 #[.string (bs p)] w fun e w' => e = .returned (.tuple #[.slice (some ⟨w.heap.size, 0, none⟩) l.length l.length, .bool true]) ∧ Calm w w' ∧ StrsG w' (some ⟨w.heap.size, 0, none⟩) l := by
  obtain ⟨h2, h3, h4⟩ := pathOf_some h
  have hpp : pathParts p = some l := by
    rw [h4]
    exact pathParts_str (by rintro rfl; simp at h2) h3
  have hc : Calls Tryz.prog 137 #[.string (bs p)] w fun e w' => e = .returned (.tuple #[.slice (some ⟨w.heap.size, 0, none⟩) l.length l.length, .bool true]) ∧ Calm w w' ∧ StrsG w' (some ⟨w.heap.size, 0, none⟩) l :=
    (rparts_c p w hp hM).mono fun e w' ⟨g1, g2⟩ => by
      rcases g1 with ⟨m, g3, _, g4, g5⟩ | ⟨g3, _⟩
      · rw [hpp] at g3
        cases g3
        exact ⟨g4, g2, g5⟩
      · rw [hpp] at g3
        cases g3
  obtain ⟨n, hn⟩ : ∃ n, l.length = n := ⟨_, rfl⟩
  rw [hn] at h2 hc ⊢
  have hn2 : ¬ n < 2 := by omega
  clear h hM h3 h4 hpp hn
  go_enter Tryz.func110, Tryz.ntmps110
  go_wp2_with (go_at_call 137; refine hc.mono ?_; rintro e w2 ⟨rfl, hc2, hst2⟩)
  go_ret2
  exact ⟨rfl, hc2, hst2⟩
theorem rpath_no (p : Str) (w : World) (hp : p.length ≤ 3000000) (hM : MaxL w) (h : pathOf p = none) :
    Calls Tryz.prog 110 #[.string (bs p)] w fun e w' => e = .returned (.tuple #[.slice none 0 0, .bool false]) ∧ Calm w w' := by
  rcases hpp : pathParts p with _ | l
  · have hc : Calls Tryz.prog 137 #[.string (bs p)] w fun e w' => e = .returned (.tuple #[.slice none 0 0, .bool false]) ∧ Calm w w' :=
      (rparts_c p w hp hM).mono fun e w' ⟨g1, g2⟩ => by
        rcases g1 with ⟨m, g3, _⟩ | ⟨_, g4⟩
        · rw [hpp] at g3
          cases g3
        · exact ⟨g4, g2⟩
    clear h hM hpp
    go_enter Tryz.func110, Tryz.ntmps110
    go_wp2_with (go_at_call 137; refine hc.mono ?_; rintro e w2 ⟨rfl, hc2⟩)
    go_ret2
    exact ⟨rfl, hc2⟩
  · have hl2 : l.length < 2 := by
      rw [pathOf, hpp] at h
      by_cases h2 : 2 ≤ l.length
      · simp [h2] at h
      · omega
    have hc : Calls Tryz.prog 137 #[.string (bs p)] w fun e w' => e = .returned (.tuple #[.slice (some ⟨w.heap.size, 0, none⟩) l.length l.length, .bool true]) ∧ Calm w w' :=
      (rparts_c p w hp hM).mono fun e w' ⟨g1, g2⟩ => by
        rcases g1 with ⟨m, g3, _, g4, g5⟩ | ⟨g3, _⟩
        · rw [hpp] at g3
          cases g3
          exact ⟨g4, g2⟩
        · rw [hpp] at g3
          cases g3
    obtain ⟨n, hn⟩ : ∃ n, l.length = n := ⟨_, rfl⟩
    rw [hn] at hl2 hc
    clear h hM hpp hn
    go_enter Tryz.func110, Tryz.ntmps110
    go_wp2_with (go_at_call 137; refine hc.mono ?_; rintro e w2 ⟨rfl, hc2⟩)
    go_ret2
    exact ⟨rfl, hc2⟩

theorem rcapt_cap1 {part c : Str} (hs : isStar part = true) (hm : mtch part c = true) : rcapt part c = cap1 part c := by
  unfold mtch at hm
  rw [if_pos hs, Bool.and_eq_true] at hm
  rw [rcapt, hs, hm.1]
  rfl

set_option maxHeartbeats 2000000 in
theorem rmatch_c (p : Pat) (s : Str) (A : Option Addr) (c : Nat) (w : World) (hs : s.length ≤ 10000) (hr : StrsR w A p.parts) (hpc : p.parts.length ≤ c) (hc47 : c ≤ 9223372036854775807) (hM : MaxL w) :
    Calls Tryz.prog 77 #[.agg #[.slice A p.parts.length c, .bool p.rest], .string (bs s)] w fun e w' => MatchEnd p s e w' ∧ Calm w w' := by
  have hlen := hr.len
  obtain ⟨n, hn⟩ : ∃ n, p.parts.length = n := ⟨_, rfl⟩
  obtain ⟨re, hre⟩ : ∃ re, p.rest = re := ⟨_, rfl⟩
  obtain ⟨w1, hw1⟩ : ∃ w1, w1 = w.alloc (.cells #[.slice A n c, .bool re] 40) := ⟨_, rfl⟩
  have hc1 : Calm w w1 := by rw [hw1]; exact (Calm.refl w).alloc _
  have hs1 : w.heap.size < w1.heap.size := by rw [hw1]; simp
  have k0 : w1.cell? ⟨w.heap.size, 0, none⟩ = some (.slice A n c) := by rw [hw1]; simp
  have k1 : w1.cell? ⟨w.heap.size, 1, none⟩ = some (.bool re) := by rw [hw1]; simp
  obtain ⟨v, hv⟩ : ∃ v, patErr p = v := ⟨_, rfl⟩
  have hck : Hid (∀ W : World, Calm w1 W → Calls Tryz.prog 67 #[.agg #[.slice A n c, .bool re]] W fun e w' => e = .returned (.int .i64 v) ∧ Calm W w') := fun W hW => by
    have := rcheckG_c p A c W (StrsR.toG ((hr.calm hc1).calm hW)) hpc hc47
    rw [hn, hre, hv] at this
    exact this
  rw [hn, hre]
  rw [hn] at hlen
  have HR := Lib.hid (hr.calm hc1)
  have HW := Lib.hid hw1
  have HC := Lib.hid hc1
  have HN := Lib.hid hn
  have HRe := Lib.hid hre
  have HV := Lib.hid hv
  have HK := Lib.hid (And.intro hs1 (And.intro k0 k1))
  have HM := Lib.hid (hM.calm hc1)
  clear hn hre hw1 hc1 hs1 k0 k1 hr hv hpc hM
  go_enter Tryz.func77, Tryz.ntmps77
  rcases hpo : pathOf s with _ | l
  · have hno : matchS p s = false := by rw [matchS, hpo]
    have hq := rpath_no s w1 (by omega) HM.out hpo
    have HE := Lib.hid hno
    clear hpo hno
    have hvc : v = 0 ∨ (v != 0) = true := by
      by_cases h : v = 0
      · exact .inl h
      · exact .inr (by simpa using h)
    rcases hvc with rfl | hvb
    all_goals
      go_wp2_with (first
        | (go_at_call 110; rw [← HW.out]; refine hq.mono ?_; rintro e w2 ⟨rfl, hc2⟩; have l0 := hc2.at_ HK.out.2.1 HK.out.1; have l1 := hc2.at_ HK.out.2.2 HK.out.1)
        | (go_at_call 67; refine (hck.out _ hc2).mono ?_; rintro e w3 ⟨rfl, hc3⟩; have r0 := (hc2.trans hc3).at_ HK.out.2.1 HK.out.1; have r1 := (hc2.trans hc3).at_ HK.out.2.2 HK.out.1))
      go_ret2
      exact ⟨MatchEnd.no HE.out, HC.out.trans (hc2.trans hc3)⟩
  · have hq := rpath_yes s l w1 (by omega) HM.out hpo
    obtain ⟨m, hm⟩ : ∃ m, l.length = m := ⟨_, rfl⟩
    rw [hm] at hq
    have HPo := Lib.hid hpo
    have HL := Lib.hid hm
    by_cases hv0 : v = 0
    · subst hv0
      have h12 : n ≤ 12 := by rw [← HN.out]; exact patErr_len HV.out
      have hokp : okPat p = true := by rw [okPat, HV.out]; rfl
      have HMS : Hid (matchS p s = (reaches p m && matchTo p l n)) := by
        show matchS p s = _
        rw [matchS, hpo]
        simp only
        rw [hokp, matchL_eq, hm, HN.out]
        rfl
      have hmb : m ≤ 20000 ∧ ∀ x ∈ l, x.length ≤ 16384 := by
        obtain ⟨h2, h3, h4⟩ := pathOf_some hpo
        have hh : l = slash (Lib.join l [47]) := (slash_join l (by rintro rfl; simp at h2) (fun x hx => comp_no47 (List.all_eq_true.1 h3 x hx))).symm
        rw [h4] at hs
        simp only [pathStr, List.length_cons] at hs
        refine ⟨?_, fun x hx => ?_⟩
        · have := slash_len (Lib.join l [47])
          rw [← hh] at this
          omega
        · rw [hh] at hx
          have := slash_each _ x hx
          omega
      have hm2 := hmb.1
      have HEach := Lib.hid hmb.2
      clear hpo hokp hmb hm
      cases re with
      | false =>
        rcases Nat.lt_trichotomy m n with hmn | hmn | hmn
        · have hv : Hid (matchS p s = false) := by
            show matchS p s = false
            rw [HMS.out]
            have : reaches p m = false := by rw [reaches, HRe.out, HN.out]; simp; omega
            rw [this]
            rfl
          go_wp2_with (first
            | (go_at_call 110; rw [← HW.out]; refine hq.mono ?_; rintro e w2 ⟨rfl, hc2, hst2⟩; have l0 := hc2.at_ HK.out.2.1 HK.out.1; have l1 := hc2.at_ HK.out.2.2 HK.out.1)
            | (go_at_call 67; refine (hck.out _ hc2).mono ?_; rintro e w3 ⟨rfl, hc3⟩; have r0 := (hc2.trans hc3).at_ HK.out.2.1 HK.out.1; have r1 := (hc2.trans hc3).at_ HK.out.2.2 HK.out.1))
          go_ret2
          exact ⟨MatchEnd.no hv.out, HC.out.trans (hc2.trans hc3)⟩
        · obtain rfl : n = m := hmn.symm
          have HRc : Hid (reaches p n = true) := by
            show reaches p n = true
            rw [reaches, HRe.out, HN.out]
            simp
          go_wp2_with (first
            | (go_at_call 110; rw [← HW.out]; refine hq.mono ?_; rintro e w2 ⟨rfl, hc2, hst2⟩; have l0 := hc2.at_ HK.out.2.1 HK.out.1; have l1 := hc2.at_ HK.out.2.2 HK.out.1)
            | (go_at_call 67; refine (hck.out _ hc2).mono ?_; rintro e w3 ⟨rfl, hc3⟩; have r0 := (hc2.trans hc3).at_ HK.out.2.1 HK.out.1; have r1 := (hc2.trans hc3).at_ HK.out.2.2 HK.out.1))
          have HC3 := Lib.hid (hc2.trans hc3)
          have HSt := Lib.hid (hst2.calm hc3)
          have HSz := Lib.hid (HK.out.1)
          clear hq hck hc2 hc3 hst2 l0 l1 r0 r1
          go_loopw [9, 61] (fun v q wr => ∃ k : Nat, k ≤ n ∧ q = .int .i64 k ∧ Hid (OwnS w3 wr v (capsTo p l k)) ∧ Hid (matchTo p l k = true)) (fun _ q _ => n - (intOf q).toNat)
          case atStart => exact ⟨0, Nat.zero_le _, rfl, OwnS.nil (Calm.refl _), rfl⟩
          case round =>
            obtain ⟨k, hk, rfl, HO, HT⟩ := hrel
            by_cases hlt : k < n
            · obtain ⟨bb, o, part, rfl, hbb, hpt, hpl, hpc⟩ := (HR.out.calm (HC3.out.trans HO.out.calm)).get (k := k) (by rw [HN.out]; exact hlt)
              obtain ⟨cb, co, x, hA, hcb, hx, _, hxc⟩ := (HSt.out.calm HO.out.calm).get (k := k) (by rw [HL.out]; omega)
              obtain ⟨rfl, rfl⟩ : w1.heap.size = cb ∧ 0 = co := by simpa using hA
              rw [Nat.zero_add] at hxc
              have hxl := HEach.out x (List.mem_of_getElem? hx)
              have hpa : pAt p k = part := by simp [pAt, List.getD_eq_getElem?_getD, hpt]
              have hxd : l.getD k [] = x := by rw [List.getD_eq_getElem?_getD, hx]; rfl
              have HPa := Lib.hid hpa
              have HX := Lib.hid hxd
              have hcl := capsTo_length p l k
              have hcl2 : (capsTo p l k).length ≤ 1000000 := by omega
              have hkm : k < n := by omega
              have hpok : partOk part = true := by rw [← hpa]; exact goodPat_at (goodPat_of HV.out) k
              have hxco : comp x = true := List.all_eq_true.1 (pathOf_some HPo.out).2.1 x (List.mem_of_getElem? hx)
              clear hA hpt hx hpa hxd hcl
              rcases hmt : mtch part x with _ | _
              · have hmp := cap_c part x
                rw [hmt] at hmp
                have hv : Hid (matchS p s = false) := by
                  show matchS p s = false
                  rw [HMS.out, matchTo_stop hlt (by rw [HPa.out, HX.out]; exact hmt), Bool.and_false]
                go_wp2_with (go_at_call 111; refine (hmp _ hpl (by omega) hpok hxco).mono ?_; rintro e w' ⟨rfl, rfl⟩)
                go_ret2
                exact ⟨MatchEnd.no hv.out, HC.out.trans (HC3.out.trans HO.out.calm)⟩
              · have hmp := cap_c part x
                rw [hmt] at hmp
                have hT2 : Hid (matchTo p l (k + 1) = true) := by
                  show matchTo p l (k + 1) = true
                  rw [matchTo_succ, HT.out, HPa.out, HX.out, hmt]
                  rfl
                rcases hst : isStar part with _ | _
                · have hsto : starOk part = false := by rw [starOk_iff hpok, hst]
                  have hcs : Hid (capsTo p l (k + 1) = capsTo p l k) := by
                    show capsTo p l (k + 1) = _
                    rw [capsTo_succ, HPa.out, hst]
                    simp
                  go_wp2_with (first
                    | (go_at_call 111; refine (hmp _ hpl (by omega) hpok hxco).mono ?_; rintro e w' ⟨rfl, rfl⟩)
                    | (go_at_call 97; refine (star_v part _ _ _ hpl hsto rfl).mono ?_; rintro e w' ⟨rfl, rfl⟩))
                  go_roundw
                  case rel => exact ⟨k + 1, by omega, by go_num, (by rw [hcs.out]; exact HO.out), hT2⟩
                  case measure => simp [intOf]; omega
                · have hsto : starOk part = true := by rw [starOk_iff hpok, hst]
                  have hcs : Hid (capsTo p l (k + 1) = capsTo p l k ++ [rcapt part x]) := by
                    show capsTo p l (k + 1) = _
                    rw [capsTo_succ, HPa.out, HX.out, hst, rcapt_cap1 hst hmt]
                    rfl
                  go_wp2_with (first
                    | (go_at_call 111; refine (hmp _ hpl (by omega) hpok hxco).mono ?_; rintro e w' ⟨rfl, rfl⟩)
                    | (go_at_call 97; refine (star_v part _ _ _ hpl hsto rfl).mono ?_; rintro e w' ⟨rfl, rfl⟩)
                    | (at_builtin; refine wpList_append_str rfl (.tmp 83) (.tmp 85) rfl w3 _ (capsTo p l k) rfl (HO.out.to ((Calm.refl wr).alloc (.cells #[.string (bs (rcapt part x))] 9))) wr.heap.size 0 1 rfl (rcapt part x) (by simp) hcl2 ?_; intro v5 w5 hown5 hgrow5))
                  go_roundw
                  case rel => exact ⟨k + 1, by omega, by go_num, (by rw [hcs.out]; exact hown5), hT2⟩
                  case measure => simp [intOf]; omega
            · obtain rfl : k = n := by omega
              have hms : Hid (matchS p s = true) := by
                show matchS p s = true
                rw [HMS.out, HRc.out, HT.out]
                rfl
              have r1 := (HC3.out.trans HO.out.calm).at_ HK.out.2.2 HK.out.1
              have hf : Hid (capsTo p l k = caps p l) := by
                show _ = caps p l
                rw [caps, HN.out, HRe.out]
                simp
              go_wp2_with fail
              go_ret2
              exact ⟨MatchEnd.yes HPo.out hs hms.out hf.out (by rw [HN.out]; omega) HO.out, HC.out.trans (HC3.out.trans HO.out.calm)⟩
        · have hv : Hid (matchS p s = false) := by
            show matchS p s = false
            rw [HMS.out]
            have : reaches p m = false := by rw [reaches, HRe.out, HN.out]; simp; omega
            rw [this]
            rfl
          go_wp2_with (first
            | (go_at_call 110; rw [← HW.out]; refine hq.mono ?_; rintro e w2 ⟨rfl, hc2, hst2⟩; have l0 := hc2.at_ HK.out.2.1 HK.out.1; have l1 := hc2.at_ HK.out.2.2 HK.out.1)
            | (go_at_call 67; refine (hck.out _ hc2).mono ?_; rintro e w3 ⟨rfl, hc3⟩; have r0 := (hc2.trans hc3).at_ HK.out.2.1 HK.out.1; have r1 := (hc2.trans hc3).at_ HK.out.2.2 HK.out.1))
          go_ret2
          exact ⟨MatchEnd.no hv.out, HC.out.trans (hc2.trans hc3)⟩
      | true =>
        rcases Nat.lt_trichotomy m n with hmn | hmn | hmn
        · have hv : Hid (matchS p s = false) := by
            show matchS p s = false
            rw [HMS.out]
            have : reaches p m = false := by rw [reaches, HRe.out, HN.out]; simp; omega
            rw [this]
            rfl
          go_wp2_with (first
            | (go_at_call 110; rw [← HW.out]; refine hq.mono ?_; rintro e w2 ⟨rfl, hc2, hst2⟩; have l0 := hc2.at_ HK.out.2.1 HK.out.1; have l1 := hc2.at_ HK.out.2.2 HK.out.1)
            | (go_at_call 67; refine (hck.out _ hc2).mono ?_; rintro e w3 ⟨rfl, hc3⟩; have r0 := (hc2.trans hc3).at_ HK.out.2.1 HK.out.1; have r1 := (hc2.trans hc3).at_ HK.out.2.2 HK.out.1))
          go_ret2
          exact ⟨MatchEnd.no hv.out, HC.out.trans (hc2.trans hc3)⟩
        · obtain rfl : n = m := hmn.symm
          have hv : Hid (matchS p s = false) := by
            show matchS p s = false
            rw [HMS.out]
            have : reaches p n = false := by rw [reaches, HRe.out, HN.out]; simp
            rw [this]
            rfl
          go_wp2_with (first
            | (go_at_call 110; rw [← HW.out]; refine hq.mono ?_; rintro e w2 ⟨rfl, hc2, hst2⟩; have l0 := hc2.at_ HK.out.2.1 HK.out.1; have l1 := hc2.at_ HK.out.2.2 HK.out.1)
            | (go_at_call 67; refine (hck.out _ hc2).mono ?_; rintro e w3 ⟨rfl, hc3⟩; have r0 := (hc2.trans hc3).at_ HK.out.2.1 HK.out.1; have r1 := (hc2.trans hc3).at_ HK.out.2.2 HK.out.1))
          go_ret2
          exact ⟨MatchEnd.no hv.out, HC.out.trans (hc2.trans hc3)⟩
        · have hd1 : decide (m < n) = false := decide_eq_false (by omega)
          have hd2 : decide (n < m) = true := decide_eq_true hmn
          have hd3 : ((m : Int) == (n : Int)) = false := by simp; omega
          have HRc : Hid (reaches p m = true) := by
            show reaches p m = true
            rw [reaches, HRe.out, HN.out]
            simp
            omega
          go_wp2_with (first
            | (go_at_call 110; rw [← HW.out]; refine hq.mono ?_; rintro e w2 ⟨rfl, hc2, hst2⟩; have l0 := hc2.at_ HK.out.2.1 HK.out.1; have l1 := hc2.at_ HK.out.2.2 HK.out.1)
            | (go_at_call 67; refine (hck.out _ hc2).mono ?_; rintro e w3 ⟨rfl, hc3⟩; have r0 := (hc2.trans hc3).at_ HK.out.2.1 HK.out.1; have r1 := (hc2.trans hc3).at_ HK.out.2.2 HK.out.1))
          have HC3 := Lib.hid (hc2.trans hc3)
          have HSt := Lib.hid (hst2.calm hc3)
          have HSz := Lib.hid (HK.out.1)
          clear hq hck hc2 hc3 hst2 l0 l1 r0 r1
          go_loopw [9, 61] (fun v q wr => ∃ k : Nat, k ≤ n ∧ q = .int .i64 k ∧ Hid (OwnS w3 wr v (capsTo p l k)) ∧ Hid (matchTo p l k = true)) (fun _ q _ => n - (intOf q).toNat)
          case atStart => exact ⟨0, Nat.zero_le _, rfl, OwnS.nil (Calm.refl _), rfl⟩
          case round =>
            obtain ⟨k, hk, rfl, HO, HT⟩ := hrel
            by_cases hlt : k < n
            · obtain ⟨bb, o, part, rfl, hbb, hpt, hpl, hpc⟩ := (HR.out.calm (HC3.out.trans HO.out.calm)).get (k := k) (by rw [HN.out]; exact hlt)
              obtain ⟨cb, co, x, hA, hcb, hx, _, hxc⟩ := (HSt.out.calm HO.out.calm).get (k := k) (by rw [HL.out]; omega)
              obtain ⟨rfl, rfl⟩ : w1.heap.size = cb ∧ 0 = co := by simpa using hA
              rw [Nat.zero_add] at hxc
              have hxl := HEach.out x (List.mem_of_getElem? hx)
              have hpa : pAt p k = part := by simp [pAt, List.getD_eq_getElem?_getD, hpt]
              have hxd : l.getD k [] = x := by rw [List.getD_eq_getElem?_getD, hx]; rfl
              have HPa := Lib.hid hpa
              have HX := Lib.hid hxd
              have hcl := capsTo_length p l k
              have hcl2 : (capsTo p l k).length ≤ 1000000 := by omega
              have hkm : k < m := by omega
              have hpok : partOk part = true := by rw [← hpa]; exact goodPat_at (goodPat_of HV.out) k
              have hxco : comp x = true := List.all_eq_true.1 (pathOf_some HPo.out).2.1 x (List.mem_of_getElem? hx)
              clear hA hpt hx hpa hxd hcl
              rcases hmt : mtch part x with _ | _
              · have hmp := cap_c part x
                rw [hmt] at hmp
                have hv : Hid (matchS p s = false) := by
                  show matchS p s = false
                  rw [HMS.out, matchTo_stop hlt (by rw [HPa.out, HX.out]; exact hmt), Bool.and_false]
                go_wp2_with (go_at_call 111; refine (hmp _ hpl (by omega) hpok hxco).mono ?_; rintro e w' ⟨rfl, rfl⟩)
                go_ret2
                exact ⟨MatchEnd.no hv.out, HC.out.trans (HC3.out.trans HO.out.calm)⟩
              · have hmp := cap_c part x
                rw [hmt] at hmp
                have hT2 : Hid (matchTo p l (k + 1) = true) := by
                  show matchTo p l (k + 1) = true
                  rw [matchTo_succ, HT.out, HPa.out, HX.out, hmt]
                  rfl
                rcases hst : isStar part with _ | _
                · have hsto : starOk part = false := by rw [starOk_iff hpok, hst]
                  have hcs : Hid (capsTo p l (k + 1) = capsTo p l k) := by
                    show capsTo p l (k + 1) = _
                    rw [capsTo_succ, HPa.out, hst]
                    simp
                  go_wp2_with (first
                    | (go_at_call 111; refine (hmp _ hpl (by omega) hpok hxco).mono ?_; rintro e w' ⟨rfl, rfl⟩)
                    | (go_at_call 97; refine (star_v part _ _ _ hpl hsto rfl).mono ?_; rintro e w' ⟨rfl, rfl⟩))
                  go_roundw
                  case rel => exact ⟨k + 1, by omega, by go_num, (by rw [hcs.out]; exact HO.out), hT2⟩
                  case measure => simp [intOf]; omega
                · have hsto : starOk part = true := by rw [starOk_iff hpok, hst]
                  have hcs : Hid (capsTo p l (k + 1) = capsTo p l k ++ [rcapt part x]) := by
                    show capsTo p l (k + 1) = _
                    rw [capsTo_succ, HPa.out, HX.out, hst, rcapt_cap1 hst hmt]
                    rfl
                  go_wp2_with (first
                    | (go_at_call 111; refine (hmp _ hpl (by omega) hpok hxco).mono ?_; rintro e w' ⟨rfl, rfl⟩)
                    | (go_at_call 97; refine (star_v part _ _ _ hpl hsto rfl).mono ?_; rintro e w' ⟨rfl, rfl⟩)
                    | (at_builtin; refine wpList_append_str rfl (.tmp 83) (.tmp 85) rfl w3 _ (capsTo p l k) rfl (HO.out.to ((Calm.refl wr).alloc (.cells #[.string (bs (rcapt part x))] 9))) wr.heap.size 0 1 rfl (rcapt part x) (by simp) hcl2 ?_; intro v5 w5 hown5 hgrow5))
                  go_roundw
                  case rel => exact ⟨k + 1, by omega, by go_num, (by rw [hcs.out]; exact hown5), hT2⟩
                  case measure => simp [intOf]; omega
            · obtain rfl : k = n := by omega
              have hms : Hid (matchS p s = true) := by
                show matchS p s = true
                rw [HMS.out, HRc.out, HT.out]
                rfl
              have r1 := (HC3.out.trans HO.out.calm).at_ HK.out.2.2 HK.out.1
              have hB := (HSt.out.calm HO.out.calm).at_
              obtain ⟨cb, co, hA, hcb, hcells⟩ := hB (by rw [HL.out]; omega)
              obtain ⟨rfl, rfl⟩ : w1.heap.size = cb ∧ 0 = co := by simpa using hA
              have hj := join_off_c (l.drop k) w1.heap.size k (m - k) wr (fun j y hy => by
                  rw [List.getElem?_drop] at hy
                  have := hcells (k + j) y hy
                  rw [Nat.zero_add] at this
                  exact this) hcb (by rw [List.length_drop, HL.out]; exact Nat.le_refl _) (by rw [List.length_drop, HL.out]; omega) (fun y hy => Nat.le_trans (HEach.out y (List.mem_of_mem_drop hy)) (by decide))
              rw [List.length_drop, HL.out] at hj
              have hcl := capsTo_length p l k
              have hcl2 : (capsTo p l k).length ≤ 1000000 := by omega
              have hf : Hid (capsTo p l k ++ [Lib.join (l.drop k) [47]] = caps p l) := by
                show _ = caps p l
                rw [caps, HN.out, HRe.out]
                rfl
              clear hB hA hcells hcl
              go_wp2_with (first
                | (go_at_call 88; refine hj.mono ?_; rintro e w4 ⟨rfl, hc4⟩)
                | (at_builtin; refine wpList_append_str rfl (.tmp 90) (.tmp 95) rfl w3 _ (capsTo p l k) rfl (HO.out.to (hc4.alloc (.cells #[.string (bs (Lib.join (l.drop k) [47]))] 9))) w4.heap.size 0 1 rfl (Lib.join (l.drop k) [47]) (by simp) hcl2 ?_; intro v5 w5 hown5 hgrow5))
              go_ret2
              exact ⟨MatchEnd.yes HPo.out hs hms.out hf.out (by rw [HN.out]; omega) hown5, HC.out.trans (HC3.out.trans hown5.calm)⟩
    · have hno : matchS p s = false := by
        rw [matchS, hpo]
        have : okPat p = false := by rw [okPat, HV.out]; simpa using hv0
        simp [this]
      have HE := Lib.hid hno
      have hvb : (v != 0) = true := by simpa using hv0
      clear hpo hno hv0 hm
      go_wp2_with (first
        | (go_at_call 110; rw [← HW.out]; refine hq.mono ?_; rintro e w2 ⟨rfl, hc2, hst2⟩; have l0 := hc2.at_ HK.out.2.1 HK.out.1; have l1 := hc2.at_ HK.out.2.2 HK.out.1)
        | (go_at_call 67; refine (hck.out _ hc2).mono ?_; rintro e w3 ⟨rfl, hc3⟩))
      go_ret2
      exact ⟨MatchEnd.no HE.out, HC.out.trans (hc2.trans hc3)⟩
end Go.Proofs.YtmfjppaeddbdaaaGreatDoor
