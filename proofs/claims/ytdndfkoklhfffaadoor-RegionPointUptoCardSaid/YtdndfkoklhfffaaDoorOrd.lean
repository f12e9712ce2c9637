/- The order of regions' paths: no path of a region comes ahead of its least path. No program in sight. -/
import Derived.Lib.Bytealg
import Derived.Test.YtdndfkoklhfffaaDoorSem
set_option linter.unusedVariables false
set_option linter.unusedSimpArgs false
namespace Go.Proofs.YtdndfkoklhfffaaDoor.Sy

/-- Lists of components, one behind the other: by length, then by bytes. -/
def ordZip : List Str → List Str → Int
  | x :: xs, y :: ys => if x.length ≠ y.length then (x.length : Int) - (y.length : Int) else if Lib.compareBytes x y ≠ 0 then Lib.compareBytes x y else ordZip xs ys
  | _, _ => 0
def ordL (a b : List Str) : Int := if a.length ≠ b.length then (a.length : Int) - (b.length : Int) else ordZip a b

theorem cmp_self : ∀ x : Str, Lib.compareBytes x x = 0
  | [] => rfl
  | a :: x => by
    have : ¬ a < a := by
      intro h
      rw [UInt8.lt_iff_toNat_lt] at h
      omega
    simp only [Lib.compareBytes, if_neg this]
    exact cmp_self x
theorem starts_fin : ∀ n : Fin 256, (isByte (UInt8.ofNat n.val) && UInt8.ofNat n.val != 46) = starts.contains (UInt8.ofNat n.val) := by decide +kernel
theorem starts_all {c : UInt8} (h1 : isByte c = true) (h2 : c ≠ 46) : c ∈ starts := by
  have h := starts_fin ⟨c.toNat, c.toNat_lt⟩
  simp only [UInt8.ofNat_toNat, h1, Bool.true_and] at h
  have h3 : (c != 46) = true := bne_iff_ne.2 h2
  rw [h3] at h
  simpa using h.symm
theorem starts_sorted : starts.Pairwise (fun a b => a.toNat < b.toNat) := by decide +kernel

/-- The first start that holds is no later than any that holds. -/
theorem find_least {pr : UInt8 → Bool} {d : UInt8} (hd : d ∈ starts) (hp : pr d = true) : ((starts.find? pr).getD 43).toNat ≤ d.toNat := by
  rcases hf : starts.find? pr with _ | s
  · have := List.find?_eq_none.1 hf d hd
    exact absurd hp this
  · obtain ⟨hs, i, hi, he, hno⟩ := List.find?_eq_some_iff_getElem.1 hf
    obtain ⟨j, hj, hje⟩ := List.mem_iff_getElem.1 hd
    have hij : i ≤ j := by
      apply Classical.byContradiction
      intro h
      have := hno j (by omega)
      rw [hje, hp] at this
      cases this
    simp only [Option.getD_some]
    by_cases e : i = j
    · subst e
      rw [he] at hje
      rw [hje]
      exact Nat.le_refl _
    · have := List.pairwise_iff_getElem.1 starts_sorted i j hi hj (by omega)
      rw [he, hje] at this
      omega

theorem ord_lt {x y : UInt8} {t : Str} (h : x.toNat < y.toNat) : Lib.compareBytes (x :: t) (y :: t) = -1 := by
  have : x < y := UInt8.lt_iff_toNat_lt.2 h
  simp [Lib.compareBytes, this]

theorem getD_of_take {l m : List Str} {k j : Nat} (h : l.take k = m.take k) (hj : j < k) : l.getD j [] = m.getD j [] := by
  have h1 : (l.take k)[j]? = (m.take k)[j]? := by rw [h]
  rw [List.getElem?_take, List.getElem?_take, if_pos hj, if_pos hj] at h1
  rw [List.getD_eq_getElem?_getD, List.getD_eq_getElem?_getD, h1]

/-- Where a path of the region parts from the least one, the least one is less. -/
theorem least_parts {b : Pat} {hs : List Pat} {l : List Str} (hb : allOk b) (hc : l.all comp = true) (hh : hasL b hs l = true) {k : Nat} (hk : k < l.length) (ht : comps b hs l.length k = l.take k) (hne : pick b hs l.length (l.take k) ≠ l.getD k []) :
    (pick b hs l.length (l.take k)).length < (l.getD k []).length ∨ ((pick b hs l.length (l.take k)).length = (l.getD k []).length ∧ Lib.compareBytes (pick b hs l.length (l.take k)) (l.getD k []) = -1) := by
  have hlk : (l.take k).length = k := by rw [List.length_take]; omega
  rw [hasL, Bool.and_eq_true] at hh
  obtain ⟨hmb, hnh⟩ := hh
  have hm := matchL_all hc hmb hk
  have hcy := getD_comp hc hk
  obtain ⟨y, hy⟩ : ∃ y, l.getD k [] = y := ⟨_, rfl⟩
  rw [hy] at hm hcy hne ⊢
  have hpk : pick b hs l.length (l.take k) = if isStar (pAt b k) then ((starts.find? fun x => allowed b hs l.length (l.take k) (x :: (pAt b k).tail)).getD 43) :: (pAt b k).tail else pAt b k := by
    unfold pick
    rw [hlk]
  rcases hst : isStar (pAt b k) with _ | _
  · exfalso
    apply hne
    rw [hpk, hst]
    unfold mtch at hm
    rw [hst] at hm
    simpa using hm
  · rw [hst, if_pos rfl] at hpk
    obtain ⟨t, htt⟩ : ∃ t, (pAt b k).tail = t := ⟨_, rfl⟩
    rw [htt] at hpk
    unfold mtch at hm
    rw [hst, if_pos rfl, htt, Bool.and_eq_true, decide_eq_true_eq] at hm
    rw [hpk] at hne ⊢
    rw [List.length_cons]
    by_cases hlen : t.length + 1 < y.length
    · exact .inl hlen
    · right
      have hsuf : t <:+ y := by
        have := hm.1
        rw [endsWith, List.isSuffixOf_iff_suffix] at this
        exact this
      obtain ⟨pre, hpre⟩ := hsuf
      have hpl : pre.length = 1 := by
        have := congrArg List.length hpre
        rw [List.length_append] at this
        omega
      match pre, hpl with
      | [d], _ =>
        rw [List.singleton_append] at hpre
        subst hpre
        refine ⟨by simp, ?_⟩
        have hdb : isByte d = true ∧ d ≠ 46 := by
          simp only [comp, Bool.and_eq_true] at hcy
          exact ⟨hcy.1.2, bne_iff_ne.1 hcy.1.1⟩
        have hds := starts_all hdb.1 hdb.2
        have hall : allowed b hs l.length (l.take k) (d :: t) = true := by
          simp only [allowed, List.all_eq_true, Bool.not_eq_true', Bool.and_eq_false_iff]
          intro h hh
          rcases hcl : closes b l.length (l.take k) h with _ | _
          · exact .inl rfl
          · right
            rcases hmm : mtch (pAt h (l.take k).length) (d :: t) with _ | _
            · rfl
            · exfalso
              rw [hlk] at hmm
              simp only [closes, isOpen, Bool.and_eq_true, List.all_eq_true, List.mem_range, hlk] at hcl
              obtain ⟨⟨hr, hop⟩, hcov⟩ := hcl
              have hml : matchL h l = true := by
                refine matchL_true.2 ⟨hr, fun j hj => ?_⟩
                have hjl := Nat.lt_of_lt_of_le hj (reaches_le hr)
                rcases Nat.lt_trichotomy j k with h1 | h1 | h1
                · have := hop j h1
                  rw [List.getD_eq_getElem?_getD, List.getElem?_take, if_pos h1, ← List.getD_eq_getElem?_getD] at this
                  exact this
                · subst h1
                  rw [hy]
                  exact hmm
                · exact inside_mtch (covers_true.1 hcov j (by omega) hjl hj) (matchL_all hc hmb hjl)
              have : (hs.any fun h => matchL h l) = true := List.any_eq_true.2 ⟨h, hh, hml⟩
              rw [this] at hnh
              cases hnh
        have hle := find_least (pr := fun x => allowed b hs l.length (l.take k) (x :: t)) hds hall
        refine ord_lt ?_
        rcases Nat.lt_or_ge ((starts.find? fun x => allowed b hs l.length (l.take k) (x :: t)).getD 43).toNat d.toNat with h1 | h1
        · exact h1
        · exfalso
          apply hne
          have : (starts.find? fun x => allowed b hs l.length (l.take k) (x :: t)).getD 43 = d := UInt8.toNat_inj.1 (by omega)
          rw [this]

theorem ordZip_least {b : Pat} {hs : List Pat} {l : List Str} (hb : allOk b) (hc : l.all comp = true) (hh : hasL b hs l = true) : ∀ (r k : Nat), r + k = l.length → comps b hs l.length k = l.take k → ordZip ((comps b hs l.length l.length).drop k) (l.drop k) ≤ 0
  | 0, k, hr, ht => by
    have h1 : l.drop k = [] := List.drop_of_length_le (by omega)
    rw [h1]
    cases (comps b hs l.length l.length).drop k <;> simp [ordZip]
  | r + 1, k, hr, ht => by
    have hk : k < l.length := by omega
    have hk2 : k < (comps b hs l.length l.length).length := by rw [comps_length]; exact hk
    rw [List.drop_eq_getElem_cons hk2, List.drop_eq_getElem_cons hk]
    have hx : (comps b hs l.length l.length)[k] = pick b hs l.length (l.take k) := by
      have h2 := comps_at (b := b) (hs := hs) (n := l.length) hk
      rw [List.getD_eq_getElem?_getD, List.getElem?_eq_getElem hk2] at h2
      simp only [Option.getD_some] at h2
      rw [h2, ht]
    have hy : l[k] = l.getD k [] := by simp [List.getD_eq_getElem?_getD, List.getElem?_eq_getElem hk]
    rw [hx, hy]
    by_cases e : pick b hs l.length (l.take k) = l.getD k []
    · have ht2 : comps b hs l.length (k + 1) = l.take (k + 1) := by
        rw [comps, ht, e, List.take_succ_eq_append_getElem hk, hy]
      have ih := ordZip_least hb hc hh r (k + 1) (by omega) ht2
      rw [ordZip, if_neg (by rw [e]; simp), e, cmp_self, if_neg (by simp)]
      exact ih
    · rcases least_parts hb hc hh hk ht e with h1 | ⟨h1, h2⟩
      · rw [ordZip, if_pos (by omega)]
        omega
      · rw [ordZip, if_neg (by simpa using h1), if_pos (by rw [h2]; decide), h2]
        decide

/-- No path of the region comes ahead of the least one. -/
theorem least_order {b : Pat} {hs : List Pat} {l : List Str} (h0 : 0 < b.parts.length) (hb : allOk b) (hc : l.all comp = true) (hh : hasL b hs l = true) : ordL (comps b hs (leastLen b hs) (leastLen b hs)) l ≤ 0 := by
  obtain ⟨h1, h2⟩ := least_len h0 hc hh
  unfold ordL
  rw [comps_length]
  by_cases e : leastLen b hs = l.length
  · rw [if_neg (by simpa using e), e]
    have := ordZip_least hb hc hh l.length 0 (by omega) (by simp [comps])
    simpa using this
  · rw [if_pos e]
    omega
end Go.Proofs.YtdndfkoklhfffaaDoor.Sy
