/- Walks: the reference's Capture, Inside, counts, part. -/
import Derived.Test.YtglnkpgfdjnhnaaGreatDoorZWalkG
set_option linter.unusedVariables false
set_option linter.unusedSimpArgs false
namespace Go.Proofs.YtglnkpgfdjnhnaaGreatDoor
open Go Go.RowKit Sy

theorem comp_not_star {l : Str} (h : comp l = true) : isStar l = false := by
  cases l with
  | nil => rfl
  | cons c t =>
    simp only [comp, Bool.and_eq_true] at h
    rcases hs : isStar (c :: t) with _ | _
    · rfl
    · have : c = 42 := by simpa [isStar] using hs
      subst this
      simp [isByte] at h
theorem starOk_iff {l : Str} (h : partOk l = true) : starOk l = isStar l := by
  rcases hs : starOk l with _ | _
  · have : comp l = true := by simpa [partOk, hs] using h
    rw [comp_not_star this]
  · rw [starOk_star hs]
theorem comp_all_bytes {l : Str} (h : comp l = true) : l.all isByte = true ∧ l.head? ≠ some 46 ∧ l ≠ [] := by
  cases l with
  | nil => cases h
  | cons c t =>
    simp only [comp, Bool.and_eq_true] at h
    refine ⟨?_, ?_, by simp⟩
    · simp only [List.all_cons, Bool.and_eq_true]; exact ⟨h.1.2, h.2⟩
    · have := bne_iff_ne.1 h.1.1
      simpa using this
/-- A beginning of a component is one, if it is not empty. -/
theorem comp_take {c : Str} (h : comp c = true) (k : Nat) : comp (c.take k) = decide (0 < k) := by
  cases c with
  | nil => cases h
  | cons a t =>
    cases k with
    | zero => rfl
    | succ k =>
      simp only [comp, Bool.and_eq_true] at h
      simp only [List.take_succ_cons, comp, h.1.1, h.1.2, Bool.true_and]
      have : (t.take k).all isByte = true := List.all_eq_true.2 fun b hb => List.all_eq_true.1 h.2 b (List.mem_of_mem_take hb)
      simp [this]

theorem star_v (l : Str) (b : Bool) (t : Str) (w : World) (hl : l.length ≤ 16384) (hb : starOk l = b) (ht : starSuf l = t) : Calls Tryz.prog 82 #[.string (bs l)] w fun e w' => e = .returned (.tuple #[.string (bs t), .bool b]) ∧ w = w' := by
  have := star_c l w (by omega)
  rw [hb, ht] at this
  exact this

/-- What the reference captures. -/
def rcapt (part c : Str) : Str := if isStar part && endsWith c part.tail then c.take (c.length - part.tail.length) else []

theorem bs_take (c : Str) (k : Nat) (h : k ≤ c.length) : (bs c).extract 0 k = bs (c.take k) := by
  apply ByteArray.ext
  apply Array.ext'
  rw [ByteArray.data_extract, Array.toList_extract, bs_toList, bs_toList]
  simp [List.extract_eq_take_drop]

set_option maxHeartbeats 1000000 in
theorem cap_c (part c : Str) (w : World) (hp : part.length ≤ 16384) (hc : c.length ≤ 20000) (hpo : partOk part = true) (hco : comp c = true) :
    Calls Tryz.prog 81 #[.string (bs part), .string (bs c)] w fun e w' => e = .returned (.tuple #[.string (bs (rcapt part c)), .bool (mtch part c)]) ∧ w = w' := by
  have hso := starOk_iff hpo
  rcases hs : isStar part with _ | _
  · have hv : Hid ((rcapt part c, mtch part c) = ([], part == c)) := by show (_, _) = _; simp [rcapt, mtch, hs]
    have hst := star_v part false [] w hp (by rw [hso, hs]) (by rw [starSuf, hso, hs]; rfl)
    clear hso
    go_enter Tryz.func81, Tryz.ntmps81
    go_wp2_with (go_at_call 82; refine hst.mono ?_; rintro e w' ⟨rfl, rfl⟩)
    go_ret2
    have h1 := congrArg Prod.fst hv.out
    have h2 := congrArg Prod.snd hv.out
    dsimp only at h1 h2
    refine ⟨?_, rfl⟩
    rw [h1, h2]
    rfl
  · have hst := star_v part true part.tail w hp (by rw [hso, hs]) (by rw [starSuf, hso, hs]; rfl)
    obtain ⟨t, ht⟩ : ∃ t, part.tail = t := ⟨_, rfl⟩
    have htl : t.length ≤ 16384 := by rw [← ht, List.length_tail]; omega
    rw [ht] at hst
    have HT := Lib.hid ht
    clear hso ht
    have hsf := hasSuffix_c c t w (by omega)
    rcases he : endsWith c t with _ | _
    · have hv : Hid ((rcapt part c, mtch part c) = ([], false)) := by show (_, _) = _; simp [rcapt, mtch, hs, HT.out, he]
      rw [he] at hsf
      go_enter Tryz.func81, Tryz.ntmps81
      go_wp2_with (first | (go_at_call 82; refine hst.mono ?_; rintro e w' ⟨rfl, rfl⟩) | (go_at_call 108; refine hsf.mono ?_; rintro e w' ⟨rfl, rfl⟩))
      go_ret2
      have h1 := congrArg Prod.fst hv.out
      have h2 := congrArg Prod.snd hv.out
      dsimp only at h1 h2
      refine ⟨?_, rfl⟩
      rw [h1, h2]
      rfl
    · have hle : t.length ≤ c.length := (endsWith_iff.1 he).length_le
      have hv : Hid ((rcapt part c, mtch part c) = (c.take (c.length - t.length), comp (c.take (c.length - t.length)))) := by
        show (_, _) = _
        rw [comp_take hco]
        simp only [rcapt, mtch, hs, HT.out, he, Bool.and_self, if_true, Bool.true_and]
        congr 1
        rw [decide_eq_decide]
        omega
      rw [he] at hsf
      have hx := bs_take c (c.length - t.length) (by omega)
      have hcm := rcomp_c (c.take (c.length - t.length)) w (by rw [List.length_take]; omega)
      have hi : ((c.length : Int) - (t.length : Int)) = ((c.length - t.length : Nat) : Int) := by omega
      go_enter Tryz.func81, Tryz.ntmps81
      go_wp2_with (first | (go_at_call 82; refine hst.mono ?_; rintro e w' ⟨rfl, rfl⟩) | (go_at_call 108; refine hsf.mono ?_; rintro e w' ⟨rfl, rfl⟩) | (go_at_call 84; refine hcm.mono ?_; rintro e w' ⟨rfl, rfl⟩))
      go_ret2
      have h1 := congrArg Prod.fst hv.out
      have h2 := congrArg Prod.snd hv.out
      dsimp only at h1 h2
      refine ⟨?_, rfl⟩
      rw [h1, h2]
      rfl
/-- All parts of a pattern are parts. -/
def goodPat (p : Pat) : Prop := ∀ l ∈ p.parts, partOk l = true
theorem goodPat_at {p : Pat} (h : goodPat p) (i : Nat) : partOk (pAt p i) = true := by
  rcases Nat.lt_or_ge i p.parts.length with hi | hi
  · have : pAt p i = p.parts[i] := by simp [pAt, List.getD_eq_getElem?_getD, List.getElem?_eq_getElem hi]
    rw [this]; exact h _ (List.getElem_mem hi)
  · rw [pAt_out hi]; rfl
theorem goodPat_of {p : Pat} (h : patErr p = 0) : goodPat p := by
  intro l hl
  obtain ⟨j, hj, e⟩ := List.mem_iff_getElem.1 hl
  rcases hp : partOk l with _ | _
  · have hg : good j l = false := by
      unfold good
      split
      · simp only [partOk, Bool.or_eq_false_iff] at hp; exact hp.1
      · exact hp
    rw [patErr_bad (by rw [List.getElem?_eq_getElem hj, e]) hg] at h
    omega
  · rfl

end Go.Proofs.YtglnkpgfdjnhnaaGreatDoor
