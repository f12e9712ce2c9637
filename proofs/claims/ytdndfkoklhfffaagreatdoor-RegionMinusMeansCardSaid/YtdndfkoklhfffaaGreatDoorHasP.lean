/- Walks: whether a path lies in a region: the program's Has. -/
import Derived.Test.YtdndfkoklhfffaaGreatDoorMatch
import Derived.Test.YtdndfkoklhfffaaGreatDoorWalkI
import Derived.Test.YtdndfkoklhfffaaGreatDoorWalkE
import Derived.Test.YtdndfkoklhfffaaGreatDoorSem
set_option linter.unusedVariables false
set_option linter.unusedSimpArgs false
namespace Go.Proofs.YtdndfkoklhfffaaGreatDoor
open Go Go.RowKit Sy

/-- Match, looked at for its yes or no alone. -/
theorem match_b (p : Pat) (s : Str) (r : Bool) (A : Option Addr) (c : Nat) (w : World) (hs : s.length ≤ 10000) (hr : StrsR w A p.parts) (hpc : p.parts.length ≤ c) (hc47 : c ≤ 9223372036854775807) (hM : MaxL w) (h : matchS p s = r) :
    Calls Tryz.prog 33 #[.agg #[.slice A p.parts.length c, .bool p.rest], .string (bs s)] w fun e w' => ∃ A' n' c', e = .returned (.tuple #[.slice A' n' c', .bool r]) ∧ Calm w w' :=
  (match_c p s A c w hs hr hpc (Nat.le_trans hc47 (by decide)) hM).mono fun e w' ⟨h1, h2⟩ => by
    rcases h1 with ⟨h3, A', c', h4, _⟩ | ⟨h3, h4⟩
    · rw [h] at h3
      subst h3
      exact ⟨_, _, _, h4, h2⟩
    · rw [h] at h3
      subst h3
      exact ⟨_, _, _, h4, h2⟩
/-- Whether a text lies in a region, by Match alone. -/
def hasS (b : Pat) (hs : List Pat) (s : Str) : Bool := matchS b s && !(hs.any fun h => matchS h s)
theorem okPat_iff {p : Pat} : okPat p = true ↔ patErr p = 0 := by simp [okPat]
theorem hasS_hasR {b : Pat} {hs : List Pat} (hb : patErr b = 0) (hh : ∀ h ∈ hs, patErr h = 0) (s : Str) : hasS b hs s = hasR b hs s := by
  unfold hasS hasR
  rcases hp : pathOf s with _ | l
  · have : matchS b s = false := by rw [matchS, hp]
    rw [this]
    rfl
  · have h1 : matchS b s = matchL b l := by
      rw [matchS, hp]
      simp only
      rw [okPat_iff.2 hb, Bool.true_and]
    have h2 : (hs.any fun h => matchS h s) = hs.any fun h => matchL h l := by
      rw [Bool.eq_iff_iff, List.any_eq_true, List.any_eq_true]
      constructor
      · rintro ⟨h, hm, he⟩
        refine ⟨h, hm, ?_⟩
        rw [matchS, hp] at he
        simp only at he
        rw [Bool.and_eq_true] at he
        exact he.2
      · rintro ⟨h, hm, he⟩
        refine ⟨h, hm, ?_⟩
        rw [matchS, hp]
        simp only
        rw [okPat_iff.2 (hh h hm), he]
        rfl
    rw [h1, h2]
    rfl

set_option maxHeartbeats 1000000 in
theorem hclo_pred (s : Str) (w : World) (Bs : Nat) (hs : s.length ≤ 10000) (hM : MaxL w) (hB : Bs < w.heap.size) (cs : w.cell? ⟨Bs, 0, none⟩ = some (.string (bs s))) :
    PredP 32 #[.pointer (some ⟨Bs, 0, none⟩)] (fun p => matchS p s) w := by
  intro W hW p A c hr hpc hc47
  show Calls Tryz.prog 32 #[.agg #[.slice A p.parts.length c, .bool p.rest], .pointer (some ⟨Bs, 0, none⟩)] W _
  obtain ⟨r, hrr⟩ : ∃ r, matchS p s = r := ⟨_, rfl⟩
  obtain ⟨w1, hw1⟩ : ∃ w1, w1 = W.alloc (.cells #[.slice A p.parts.length c, .bool p.rest] 24) := ⟨_, rfl⟩
  have hc1 : Calm W w1 := by rw [hw1]; exact (Calm.refl W).alloc _
  have hm := match_b p s r A c w1 hs (hr.calm hc1) hpc hc47 (hM.calm (hW.trans hc1)) hrr
  have k0 : w1.cell? ⟨Bs, 0, none⟩ = some (.string (bs s)) := (hW.trans hc1).at_ cs hB
  have b0 : w1.cell? ⟨W.heap.size, 0, none⟩ = some (.slice A p.parts.length c) := by rw [hw1]; simp
  have b1 : w1.cell? ⟨W.heap.size, 1, none⟩ = some (.bool p.rest) := by rw [hw1]; simp
  show Calls _ _ _ W fun e w' => e = .returned (.bool (matchS p s)) ∧ Calm W w'
  rw [hrr]
  have HW := Lib.hid hw1
  have HC := Lib.hid hc1
  rw [hw1] at k0
  clear hw1 hc1 hr hrr hM cs hW b0 b1
  generalize p.parts.length = n at hm HW k0 hpc ⊢
  generalize p.rest = re at hm HW k0 ⊢
  go_enter Tryz.func32, Tryz.ntmps32
  go_wp2_with (go_at_call 33; rw [← HW.out]; refine hm.mono ?_; rintro e w2 ⟨A2, n2, c2, rfl, hc2⟩)
  go_ret
  exact ⟨rfl, HC.out.trans hc2⟩

/-- What Has says. -/
def hasV (b : Pat) (hs : List Pat) (s : Str) : Bool := regErr b hs == 0 && hasS b hs s

set_option maxHeartbeats 1000000 in
theorem has_c (b : Pat) (hs : List Pat) (s : Str) (A : Option Addr) (c : Nat) (HA : Option Addr) (hc : Nat) (w : World) (hsl : s.length ≤ 10000) (hr : StrsR w A b.parts) (hnc : b.parts.length ≤ c) (hc47 : c ≤ 9223372036854775807) (hh : PatsR w HA hs) (hM : MaxL w) :
    Calls Tryz.prog 17 #[.agg #[.slice A b.parts.length c, .bool b.rest, .slice HA hs.length hc], .string (bs s)] w fun e w' => e = .returned (.bool (hasV b hs s)) ∧ Calm w w' := by
  obtain ⟨hn, hhn⟩ : ∃ hn, hs.length = hn := ⟨_, rfl⟩
  obtain ⟨w1, hw1⟩ : ∃ w1, w1 = (w.alloc (.cells #[.slice A b.parts.length c, .bool b.rest, .slice HA hn hc] 27)).alloc (.cells #[.string (bs s)] 9) := ⟨_, rfl⟩
  have hc1 : Calm w w1 := by rw [hw1]; exact ((Calm.refl w).alloc _).alloc _
  have hs1 : w1.heap.size = w.heap.size + 2 := by rw [hw1]; simp
  have k0 : w1.cell? ⟨w.heap.size, 0, none⟩ = some (.slice A b.parts.length c) := by rw [hw1]; simp
  have k1 : w1.cell? ⟨w.heap.size, 1, none⟩ = some (.bool b.rest) := by rw [hw1]; simp
  have k2 : w1.cell? ⟨w.heap.size, 2, none⟩ = some (.slice HA hn hc) := by rw [hw1]; simp
  have k3 : w1.cell? ⟨w.heap.size + 1, 0, none⟩ = some (.string (bs s)) := by rw [hw1]; simp
  obtain ⟨v, hv⟩ : ∃ v, regErr b hs = v := ⟨_, rfl⟩
  have hck := gcheck_c b hs A c HA hc w1 (hr.calm hc1) hnc hc47 (hh.calm hc1)
  have HPred : Hid (∀ W : World, Calm w1 W → PredP 32 #[.pointer (some ⟨w.heap.size + 1, 0, none⟩)] (fun p => matchS p s) W) := fun W hW =>
    hclo_pred s W (w.heap.size + 1) hsl (hM.calm (hc1.trans hW)) (Nat.lt_of_lt_of_le (by rw [hs1]; omega) hW.size) (hW.at_ k3 (by rw [hs1]; omega))
  have HBase : Hid (∀ W : World, Calm w1 W → Calls Tryz.prog 32 #[.agg #[.slice A b.parts.length c, .bool b.rest], .pointer (some ⟨w.heap.size + 1, 0, none⟩)] W fun e w' => e = .returned (.bool (matchS b s)) ∧ Calm W w') := fun W hW =>
    HPred.out W hW W (Calm.refl W) b A c ((hr.calm hc1).calm hW) hnc hc47
  have HAny : Hid (∀ W : World, Calm w1 W → Calls Tryz.prog 34 #[.slice HA hn hc, .func (.func 32) #[] #[.pointer (some ⟨w.heap.size + 1, 0, none⟩)]] W fun e w' => e = .returned (.bool (hs.any fun h => matchS h s)) ∧ Calm W w') := fun W hW => by
    have := pany_c 32 #[.pointer (some ⟨w.heap.size + 1, 0, none⟩)] (enters_of Tryz.func32 (by kernel_rfl) rfl) (fun p => matchS p s) hs HA hc W ((hh.calm hc1).calm hW) (HPred.out W hW)
    rw [hhn] at this
    exact this
  have eg : ∀ args w, (callFunc 32 args).run Tryz.prog w = .ok (.enter 32 args) w := enters_of Tryz.func32 (by kernel_rfl) rfl
  have HV : Hid (hasV b hs s = (v == 0 && (matchS b s && !(hs.any fun h => matchS h s)))) := by
    show hasV b hs s = _
    rw [hasV, hv]
    rfl
  rw [hv, hhn] at hck
  rw [hhn]
  have HW := Lib.hid hw1
  have HC := Lib.hid hc1
  have HS := Lib.hid hs1
  have HK := Lib.hid (And.intro k0 (And.intro k1 k2))
  clear hw1 hc1 hs1 k0 k1 k2 k3 hr hh hhn hv hM HPred hnc
  generalize b.parts.length = bn at *
  generalize b.rest = br at *
  generalize (hs.any fun h => matchS h s) = ra at *
  go_enter Tryz.func17, Tryz.ntmps17
  by_cases h0 : v = 0
  · subst h0
    rcases hm : matchS b s with _ | _
    · rw [hm] at HBase HV
      go_wp2_with (first
        | (go_at_call 16; rw [← HW.out]; refine hck.mono ?_; rintro e w2 ⟨rfl, hc2⟩; have l0 := hc2.at_ HK.out.1 (by rw [HS.out]; omega); have l1 := hc2.at_ HK.out.2.1 (by rw [HS.out]; omega); have l2 := hc2.at_ HK.out.2.2 (by rw [HS.out]; omega))
        | (go_at_fn 32; refine (HBase.out _ hc2).mono ?_; rintro e w3 ⟨rfl, hc3⟩; have m2 := (hc2.trans hc3).at_ HK.out.2.2 (by rw [HS.out]; omega))
        | (go_at_call 34; refine (HAny.out _ (hc2.trans hc3)).mono ?_; rintro e w4 ⟨rfl, hc4⟩))
      go_ret
      exact ⟨ret_bool (by rw [HV.out]; simp), HC.out.trans (hc2.trans hc3)⟩
    · rw [hm] at HBase HV
      go_wp2_with (first
        | (go_at_call 16; rw [← HW.out]; refine hck.mono ?_; rintro e w2 ⟨rfl, hc2⟩; have l0 := hc2.at_ HK.out.1 (by rw [HS.out]; omega); have l1 := hc2.at_ HK.out.2.1 (by rw [HS.out]; omega); have l2 := hc2.at_ HK.out.2.2 (by rw [HS.out]; omega))
        | (go_at_fn 32; refine (HBase.out _ hc2).mono ?_; rintro e w3 ⟨rfl, hc3⟩; have m2 := (hc2.trans hc3).at_ HK.out.2.2 (by rw [HS.out]; omega))
        | (go_at_call 34; refine (HAny.out _ (hc2.trans hc3)).mono ?_; rintro e w4 ⟨rfl, hc4⟩))
      go_ret
      exact ⟨ret_bool (by rw [HV.out]; simp), HC.out.trans (hc2.trans (hc3.trans hc4))⟩
  · have hvb : (v != 0) = true := by simpa using h0
    have hv0 : Hid (hasV b hs s = false) := by
      show hasV b hs s = false
      rw [HV.out]
      simp [h0]
    clear h0
    go_wp2_with (go_at_call 16; rw [← HW.out]; refine hck.mono ?_; rintro e w2 ⟨rfl, hc2⟩)
    go_ret
    exact ⟨ret_bool hv0.out.symm, HC.out.trans hc2⟩
theorem hasS_hit {b : Pat} {hs : List Pat} {s : Str} {k : Nat} {p : Pat} (hk : hs[k]? = some p) (hp : matchS p s = true) : hasS b hs s = false := by
  have : (hs.any fun h => matchS h s) = true := List.any_eq_true.2 ⟨p, List.mem_of_getElem? hk, hp⟩
  rw [hasS, this]
  simp
theorem hasS_miss {b : Pat} {hs : List Pat} {s : Str} (hb : matchS b s = true) (hall : ∀ j q, j < hs.length → hs[j]? = some q → matchS q s = false) : hasS b hs s = true := by
  have : (hs.any fun h => matchS h s) = false := by
    rw [List.any_eq_false]
    intro q hq
    obtain ⟨j, hj, e⟩ := List.mem_iff_getElem.1 hq
    simp [hall j q hj (by rw [List.getElem?_eq_getElem hj, e])]
  rw [hasS, this, hb]
  rfl

end Go.Proofs.YtdndfkoklhfffaaGreatDoor
