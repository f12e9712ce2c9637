/- Walks: the reference's Capture, Inside, counts, part. -/
import Derived.Test.YtdndfkoklhfffaaDoorWalkF
set_option linter.unusedVariables false
set_option linter.unusedSimpArgs false
namespace Go.Proofs.YtdndfkoklhfffaaDoor
open Go Go.RowKit Sy

theorem comp_not_star {l : Str} (h : comp l = true) : isStar l = false := by
  cases l with
  | nil => rfl
  | cons c t =>
    simp only [comp, Bool.and_eq_true] at h
    rcases hs : isStar (c :: t) with _ | _
    · rfl
    · have : c = 42 := by simpa [isStar] using hs
      subst this
      simp [isByte] at h
theorem starOk_iff {l : Str} (h : partOk l = true) : starOk l = isStar l := by
  rcases hs : starOk l with _ | _
  · have : comp l = true := by simpa [partOk, hs] using h
    rw [comp_not_star this]
  · rw [starOk_star hs]
theorem comp_all_bytes {l : Str} (h : comp l = true) : l.all isByte = true ∧ l.head? ≠ some 46 ∧ l ≠ [] := by
  cases l with
  | nil => cases h
  | cons c t =>
    simp only [comp, Bool.and_eq_true] at h
    refine ⟨?_, ?_, by simp⟩
    · simp only [List.all_cons, Bool.and_eq_true]; exact ⟨h.1.2, h.2⟩
    · have := bne_iff_ne.1 h.1.1
      simpa using this
/-- A beginning of a component is one, if it is not empty. -/
theorem comp_take {c : Str} (h : comp c = true) (k : Nat) : comp (c.take k) = decide (0 < k) := by
  cases c with
  | nil => cases h
  | cons a t =>
    cases k with
    | zero => rfl
    | succ k =>
      simp only [comp, Bool.and_eq_true] at h
      simp only [List.take_succ_cons, comp, h.1.1, h.1.2, Bool.true_and]
      have : (t.take k).all isByte = true := List.all_eq_true.2 fun b hb => List.all_eq_true.1 h.2 b (List.mem_of_mem_take hb)
      simp [this]

theorem star_v (l : Str) (b : Bool) (t : Str) (w : World) (hl : l.length ≤ 16384) (hb : starOk l = b) (ht : starSuf l = t) : Calls Tryd.prog 39 #[.string (bs l)] w fun e w' => e = .returned (.tuple #[.string (bs t), .bool b]) ∧ w = w' := by
  have := star_c l w (by omega)
  rw [hb, ht] at this
  exact this

/-- What the reference captures. -/
def rcapt (part c : Str) : Str := if isStar part && endsWith c part.tail then c.take (c.length - part.tail.length) else []

theorem bs_take (c : Str) (k : Nat) (h : k ≤ c.length) : (bs c).extract 0 k = bs (c.take k) := by
  apply ByteArray.ext
  apply Array.ext'
  rw [ByteArray.data_extract, Array.toList_extract, bs_toList, bs_toList]
  simp [List.extract_eq_take_drop]

set_option maxHeartbeats 1000000 in
theorem cap_c (part c : Str) (w : World) (hp : part.length ≤ 16384) (hc : c.length ≤ 20000) (hpo : partOk part = true) (hco : comp c = true) :
    Calls Tryd.prog 46 #[.string (bs part), .string (bs c)] w fun e w' => e = .returned (.tuple #[.string (bs (rcapt part c)), .bool (mtch part c)]) ∧ w = w' := by
  have hso := starOk_iff hpo
  rcases hs : isStar part with _ | _
  · have hv : Hid ((rcapt part c, mtch part c) = ([], part == c)) := by show (_, _) = _; simp [rcapt, mtch, hs]
    have hst := star_v part false [] w hp (by rw [hso, hs]) (by rw [starSuf, hso, hs]; rfl)
    clear hso
    go_enter Tryd.func46, Tryd.ntmps46
    go_wp2_with (go_at_call 39; refine hst.mono ?_; rintro e w' ⟨rfl, rfl⟩)
    go_ret2
    have h1 := congrArg Prod.fst hv.out
    have h2 := congrArg Prod.snd hv.out
    dsimp only at h1 h2
    refine ⟨?_, rfl⟩
    rw [h1, h2]
    rfl
  · have hst := star_v part true part.tail w hp (by rw [hso, hs]) (by rw [starSuf, hso, hs]; rfl)
    obtain ⟨t, ht⟩ : ∃ t, part.tail = t := ⟨_, rfl⟩
    have htl : t.length ≤ 16384 := by rw [← ht, List.length_tail]; omega
    rw [ht] at hst
    have HT := Lib.hid ht
    clear hso ht
    have hsf := hasSuffix_c c t w (by omega)
    rcases he : endsWith c t with _ | _
    · have hv : Hid ((rcapt part c, mtch part c) = ([], false)) := by show (_, _) = _; simp [rcapt, mtch, hs, HT.out, he]
      rw [he] at hsf
      go_enter Tryd.func46, Tryd.ntmps46
      go_wp2_with (first | (go_at_call 39; refine hst.mono ?_; rintro e w' ⟨rfl, rfl⟩) | (go_at_call 76; refine hsf.mono ?_; rintro e w' ⟨rfl, rfl⟩))
      go_ret2
      have h1 := congrArg Prod.fst hv.out
      have h2 := congrArg Prod.snd hv.out
      dsimp only at h1 h2
      refine ⟨?_, rfl⟩
      rw [h1, h2]
      rfl
    · have hle : t.length ≤ c.length := (endsWith_iff.1 he).length_le
      have hv : Hid ((rcapt part c, mtch part c) = (c.take (c.length - t.length), comp (c.take (c.length - t.length)))) := by
        show (_, _) = _
        rw [comp_take hco]
        simp only [rcapt, mtch, hs, HT.out, he, Bool.and_self, if_true, Bool.true_and]
        congr 1
        rw [decide_eq_decide]
        omega
      rw [he] at hsf
      have hx := bs_take c (c.length - t.length) (by omega)
      have hcm := rcomp_c (c.take (c.length - t.length)) w (by rw [List.length_take]; omega)
      have hi : ((c.length : Int) - (t.length : Int)) = ((c.length - t.length : Nat) : Int) := by omega
      go_enter Tryd.func46, Tryd.ntmps46
      go_wp2_with (first | (go_at_call 39; refine hst.mono ?_; rintro e w' ⟨rfl, rfl⟩) | (go_at_call 76; refine hsf.mono ?_; rintro e w' ⟨rfl, rfl⟩) | (go_at_call 67; refine hcm.mono ?_; rintro e w' ⟨rfl, rfl⟩))
      go_ret2
      have h1 := congrArg Prod.fst hv.out
      have h2 := congrArg Prod.snd hv.out
      dsimp only at h1 h2
      refine ⟨?_, rfl⟩
      rw [h1, h2]
      rfl
set_option maxHeartbeats 1000000 in
theorem rinside_c (x y : Str) (w : World) (hx : x.length ≤ 16384) (hy : y.length ≤ 16384) (hxo : partOk x = true) (hyo : partOk y = true) :
    Calls Tryd.prog 90 #[.string (bs x), .string (bs y)] w fun e w' => e = .returned (.bool (inside x y)) ∧ w = w' := by
  by_cases hxy : x = y
  · subst hxy
    have hv : inside x x = true := by simp [inside]
    rw [hv]
    clear hv
    rcases hs : isStar x with _ | _
    · have hst := star_v x false [] w hx (by rw [starOk_iff hxo, hs]) (by rw [starSuf, starOk_iff hxo, hs]; rfl)
      go_enter Tryd.func90, Tryd.ntmps90
      go_wp2_with (go_at_call 39; refine hst.mono ?_; rintro e w' ⟨rfl, rfl⟩)
      go_ret
      exact ⟨rfl, rfl⟩
    · have hst := star_v x true x.tail w hx (by rw [starOk_iff hxo, hs]) (by rw [starSuf, starOk_iff hxo, hs]; rfl)
      have hsf := hasSuffix_c x.tail x.tail w (by rw [List.length_tail]; omega)
      have he : endsWith x.tail x.tail = true := endsWith_iff.2 (List.suffix_refl _)
      rw [he] at hsf
      clear he
      go_enter Tryd.func90, Tryd.ntmps90
      go_wp2_with (first | (go_at_call 39; refine hst.mono ?_; rintro e w' ⟨rfl, rfl⟩) | (go_at_call 76; refine hsf.mono ?_; rintro e w' ⟨rfl, rfl⟩))
      go_ret
      exact ⟨rfl, rfl⟩
  · have hne : (x == y) = false := by simpa using hxy
    rcases hsy : isStar y with _ | _
    · have hv : inside x y = false := by simp [inside, hne, hsy]
      rw [hv]
      clear hv hxy
      have hty := star_v y false [] w hy (by rw [starOk_iff hyo, hsy]) (by rw [starSuf, starOk_iff hyo, hsy]; rfl)
      have htx := star_c x w (by omega)
      go_enter Tryd.func90, Tryd.ntmps90
      go_wp2_with (first | (go_at_call_of 39 (bs x); refine htx.mono ?_; rintro e w' ⟨rfl, rfl⟩) | (go_at_call_of 39 (bs y); refine hty.mono ?_; rintro e w' ⟨rfl, rfl⟩))
      go_ret
      exact ⟨rfl, rfl⟩
    · have hty := star_v y true y.tail w hy (by rw [starOk_iff hyo, hsy]) (by rw [starSuf, starOk_iff hyo, hsy]; rfl)
      rcases hsx : isStar x with _ | _
      · have hv : inside x y = mtch y x := by simp [inside, hne, hsx, hsy]
        rw [hv]
        clear hv hxy
        have htx := star_v x false [] w hx (by rw [starOk_iff hxo, hsx]) (by rw [starSuf, starOk_iff hxo, hsx]; rfl)
        have hco : comp x = true := by
          have h1 := starOk_iff hxo
          rw [hsx] at h1
          simpa [partOk, h1] using hxo
        have hca := cap_c y x w hy (by omega) hyo hco
        generalize mtch y x = r at hca ⊢
        go_enter Tryd.func90, Tryd.ntmps90
        go_wp2_with (first | (go_at_call_of 39 (bs x); refine htx.mono ?_; rintro e w' ⟨rfl, rfl⟩) | (go_at_call_of 39 (bs y); refine hty.mono ?_; rintro e w' ⟨rfl, rfl⟩) | (go_at_call 46; refine hca.mono ?_; rintro e w' ⟨rfl, rfl⟩))
        go_ret
        exact ⟨rfl, rfl⟩
      · have hv : inside x y = endsWith x.tail y.tail := by simp [inside, hne, hsx, hsy]
        rw [hv]
        clear hv hxy
        have htx := star_v x true x.tail w hx (by rw [starOk_iff hxo, hsx]) (by rw [starSuf, starOk_iff hxo, hsx]; rfl)
        have hsf := hasSuffix_c x.tail y.tail w (by rw [List.length_tail]; omega)
        generalize endsWith x.tail y.tail = r at hsf ⊢
        go_enter Tryd.func90, Tryd.ntmps90
        go_wp2_with (first | (go_at_call_of 39 (bs x); refine htx.mono ?_; rintro e w' ⟨rfl, rfl⟩) | (go_at_call_of 39 (bs y); refine hty.mono ?_; rintro e w' ⟨rfl, rfl⟩) | (go_at_call 76; refine hsf.mono ?_; rintro e w' ⟨rfl, rfl⟩))
        go_ret
        exact ⟨rfl, rfl⟩

/-- All parts of a pattern are parts. -/
def goodPat (p : Pat) : Prop := ∀ l ∈ p.parts, partOk l = true
theorem goodPat_at {p : Pat} (h : goodPat p) (i : Nat) : partOk (pAt p i) = true := by
  rcases Nat.lt_or_ge i p.parts.length with hi | hi
  · have : pAt p i = p.parts[i] := by simp [pAt, List.getD_eq_getElem?_getD, List.getElem?_eq_getElem hi]
    rw [this]; exact h _ (List.getElem_mem hi)
  · rw [pAt_out hi]; rfl
theorem goodPat_of {p : Pat} (h : patErr p = 0) : goodPat p := by
  intro l hl
  obtain ⟨j, hj, e⟩ := List.mem_iff_getElem.1 hl
  rcases hp : partOk l with _ | _
  · have hg : good j l = false := by
      unfold good
      split
      · simp only [partOk, Bool.or_eq_false_iff] at hp; exact hp.1
      · exact hp
    rw [patErr_bad (by rw [List.getElem?_eq_getElem hj, e]) hg] at h
    omega
  · rfl

end Go.Proofs.YtdndfkoklhfffaaDoor
