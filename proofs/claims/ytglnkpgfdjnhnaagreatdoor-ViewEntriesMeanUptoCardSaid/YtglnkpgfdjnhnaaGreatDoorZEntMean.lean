/- The law on what the entries of a view mean answers true for every input of at most 1048576 values and letters and leaves its arguments as they were. The two listed tables hold what the library lays. -/
import Derived.Test.YtglnkpgfdjnhnaaGreatDoorCards
import Derived.Test.YtglnkpgfdjnhnaaGreatDoorTie
import Derived.WalkKit
import Derived.ProofKit
import Derived.OpenShut
import Derived.Carry
import Derived.Deep.DeepHandedRow
import Derived.Lib.LaidTab
import GoSem.PinnedTables
import Derived.Test.YtglnkpgfdjnhnaaGreatDoorZSem
import Derived.Test.YtglnkpgfdjnhnaaGreatDoorZWalkI
import Derived.Test.YtglnkpgfdjnhnaaGreatDoorZMatch
import Derived.Test.YtglnkpgfdjnhnaaGreatDoorZPath
import Derived.Test.YtglnkpgfdjnhnaaGreatDoorZRMatch
import Derived.Test.YtglnkpgfdjnhnaaGreatDoorZFwd
import Derived.Test.YtglnkpgfdjnhnaaGreatDoorZEntM
import Derived.Test.YtglnkpgfdjnhnaaGreatDoorZEntP
import Derived.Test.YtglnkpgfdjnhnaaGreatDoorZAwakeV
import Derived.Test.YtglnkpgfdjnhnaaGreatDoorZLawEnt
import Derived.Test.YtglnkpgfdjnhnaaGreatDoorZOpenRule
set_option linter.unusedVariables false
set_option linter.unusedSimpArgs false
namespace Go.Proofs.YtglnkpgfdjnhnaaGreatDoor
open Go Go.RowKit Sy

/-- Whether a text lies in a region, by Match alone. -/
def hasS (b : Pat) (hs : List Pat) (s : Str) : Bool := matchS b s && !(hs.any fun h => matchS h s)
theorem okPat_iff {p : Pat} : okPat p = true ↔ patErr p = 0 := by simp [okPat]
theorem hasS_hasR {b : Pat} {hs : List Pat} (hb : patErr b = 0) (hh : ∀ h ∈ hs, patErr h = 0) (s : Str) : hasS b hs s = hasR b hs s := by
  unfold hasS hasR
  rcases hp : pathOf s with _ | l
  · have : matchS b s = false := by rw [matchS, hp]
    rw [this]
    rfl
  · have h1 : matchS b s = matchL b l := by
      rw [matchS, hp]
      simp only
      rw [okPat_iff.2 hb, Bool.true_and]
    have h2 : (hs.any fun h => matchS h s) = hs.any fun h => matchL h l := by
      rw [Bool.eq_iff_iff, List.any_eq_true, List.any_eq_true]
      constructor
      · rintro ⟨h, hm, he⟩
        refine ⟨h, hm, ?_⟩
        rw [matchS, hp] at he
        simp only at he
        rw [Bool.and_eq_true] at he
        exact he.2
      · rintro ⟨h, hm, he⟩
        refine ⟨h, hm, ?_⟩
        rw [matchS, hp]
        simp only
        rw [okPat_iff.2 (hh h hm), he]
        rfl
    rw [h1, h2]
    rfl
theorem hasS_hit {b : Pat} {hs : List Pat} {s : Str} {k : Nat} {p : Pat} (hk : hs[k]? = some p) (hp : matchS p s = true) : hasS b hs s = false := by
  have : (hs.any fun h => matchS h s) = true := List.any_eq_true.2 ⟨p, List.mem_of_getElem? hk, hp⟩
  rw [hasS, this]
  simp
theorem hasS_miss {b : Pat} {hs : List Pat} {s : Str} (hb : matchS b s = true) (hall : ∀ j q, j < hs.length → hs[j]? = some q → matchS q s = false) : hasS b hs s = true := by
  have : (hs.any fun h => matchS h s) = false := by
    rw [List.any_eq_false]
    intro q hq
    obtain ⟨j, hj, e⟩ := List.mem_iff_getElem.1 hq
    simp [hall j q hj (by rw [List.getElem?_eq_getElem hj, e])]
  rw [hasS, this, hb]
  rfl
end Go.Proofs.YtglnkpgfdjnhnaaGreatDoor
set_option linter.unusedVariables false
set_option linter.unusedSimpArgs false
namespace Go.Proofs.YtglnkpgfdjnhnaaGreatDoor
open Go Go.RowKit Sy

theorem rmatch_b (p : Pat) (s : Str) (r : Bool) (A : Option Addr) (c : Nat) (w : World) (hs : s.length ≤ 10000) (hr : StrsR w A p.parts) (hpc : p.parts.length ≤ c) (hc47 : c ≤ 9223372036854775807) (hM : MaxL w) (h : matchS p s = r) :
    Calls Tryz.prog 52 #[.agg #[.slice A p.parts.length c, .bool p.rest], .string (bs s)] w fun e w' => ∃ A' n' c', e = .returned (.tuple #[.slice A' n' c', .bool r]) ∧ Calm w w' :=
  (rmatch_c p s A c w hs hr hpc (Nat.le_trans hc47 (by decide)) hM).mono fun e w' ⟨h1, h2⟩ => by
    rcases h1 with ⟨h3, A', c', h4, _⟩ | ⟨h3, h4⟩
    · rw [h] at h3
      subst h3
      exact ⟨_, _, _, h4, h2⟩
    · rw [h] at h3
      subst h3
      exact ⟨_, _, _, h4, h2⟩


set_option maxHeartbeats 1000000 in
theorem rhas_c (b : Pat) (hs : List Pat) (s : Str) (A : Option Addr) (c : Nat) (HA : Option Addr) (hc : Nat) (w : World) (hsl : s.length ≤ 10000) (hr : StrsR w A b.parts) (hnc : b.parts.length ≤ c) (hc47 : c ≤ 9223372036854775807) (hh : PatsR w HA hs) (hM : MaxL w) :
    Calls Tryz.prog 24 #[.agg #[.slice A b.parts.length c, .bool b.rest, .slice HA hs.length hc], .string (bs s)] w fun e w' => e = .returned (.bool (hasS b hs s)) ∧ Calm w w' := by
  have hhl := hh.len
  obtain ⟨hn, hhn⟩ : ∃ hn, hs.length = hn := ⟨_, rfl⟩
  obtain ⟨w1, hw1⟩ : ∃ w1, w1 = w.alloc (.cells #[.slice A b.parts.length c, .bool b.rest, .slice HA hn hc] 46) := ⟨_, rfl⟩
  have hc1 : Calm w w1 := by rw [hw1]; exact (Calm.refl w).alloc _
  have hs1 : w.heap.size < w1.heap.size := by rw [hw1]; simp
  have k2 : w1.cell? ⟨w.heap.size, 2, none⟩ = some (.slice HA hn hc) := by rw [hw1]; simp
  obtain ⟨r, hrr⟩ : ∃ r, matchS b s = r := ⟨_, rfl⟩
  have hm := rmatch_b b s r A c w1 hsl (hr.calm hc1) hnc hc47 (hM.calm hc1) hrr
  rw [hhn] at hhl ⊢
  have HW := Lib.hid hw1
  have HC := Lib.hid hc1
  have HN := Lib.hid hhn
  have HRr := Lib.hid hrr
  have HK := Lib.hid (And.intro hs1 k2)
  have HH := Lib.hid (hh.calm hc1)
  have HM := Lib.hid (hM.calm hc1)
  clear hw1 hc1 hs1 k2 hr hh hhn hrr hM hnc
  generalize b.parts.length = bn at *
  generalize b.rest = br at *
  go_enter Tryz.func24, Tryz.ntmps24
  cases r with
  | false =>
    have hv : Hid (hasS b hs s = false) := by
      show hasS b hs s = false
      rw [hasS, HRr.out]
      rfl
    go_wp2_with (go_at_call 52; rw [← HW.out]; refine hm.mono ?_; rintro e w2 ⟨A2, n2, c2, rfl, hc2⟩)
    go_ret
    exact ⟨ret_bool hv.out.symm, HC.out.trans hc2⟩
  | true =>
    go_wp2_with (go_at_call 52; rw [← HW.out]; refine hm.mono ?_; rintro e w2 ⟨A2, n2, c2, rfl, hc2⟩; have l2 := hc2.at_ HK.out.2 HK.out.1)
    have HC2 := Lib.hid hc2
    clear hm hc2 l2
    go_loopw [23] (fun q wr => ∃ k : Nat, k ≤ hn ∧ q = .int .i64 k ∧ Hid (∀ j h, j < k → hs[j]? = some h → matchS h s = false) ∧ Hid (Calm w1 wr)) (fun q _ => hn - (intOf q).toNat)
    case atStart => exact ⟨0, Nat.zero_le _, rfl, fun j h hj => absurd hj (Nat.not_lt_zero _), HC2.out⟩
    case round =>
      obtain ⟨k, hk, rfl, HI, HCr⟩ := hrel
      by_cases hlt : k < hn
      · obtain ⟨bb, o, p, Ak, ck, rfl, _, hpk, h1, h2, h3, h4, h5⟩ := (HH.out.calm HCr.out).get (k := k) (by rw [HN.out]; exact hlt)
        have HP := Lib.hid hpk
        have H5 := Lib.hid h5
        have HMr := Lib.hid (HM.out.calm HCr.out)
        obtain ⟨r2, hr2⟩ : ∃ r2, matchS p s = r2 := ⟨_, rfl⟩
        have HR2 := Lib.hid hr2
        clear hpk h5 hr2
        cases r2 with
        | true =>
          go_wp2_with (go_at_call 52; refine (rmatch_b p s true _ _ _ hsl (H5.out.calm ((Calm.refl _).alloc _)) h3 h4 (HMr.out.calm ((Calm.refl _).alloc _)) HR2.out).mono ?_; rintro e w3 ⟨A3, n3, c3, rfl, hc3⟩)
          go_ret
          exact ⟨ret_bool (hasS_hit HP.out HR2.out).symm, HC.out.trans (HCr.out.trans (((Calm.refl _).alloc _).trans hc3))⟩
        | false =>
          go_wp2_with (go_at_call 52; refine (rmatch_b p s false _ _ _ hsl (H5.out.calm ((Calm.refl _).alloc _)) h3 h4 (HMr.out.calm ((Calm.refl _).alloc _)) HR2.out).mono ?_; rintro e w3 ⟨A3, n3, c3, rfl, hc3⟩)
          go_roundw
          case rel => exact ⟨k + 1, by omega, by go_num, none_step (pr := fun h => matchS h s) HP.out HR2.out HI.out, HCr.out.trans (((Calm.refl _).alloc _).trans hc3)⟩
          case measure => simp [intOf]; omega
      · have hv : Hid (hasS b hs s = true) := hasS_miss HRr.out fun j q hj hq => HI.out j q (by rw [HN.out] at hj; omega) hq
        go_wp2
        go_ret
        exact ⟨ret_bool hv.out.symm, HC.out.trans HCr.out⟩
end Go.Proofs.YtglnkpgfdjnhnaaGreatDoor
set_option linter.unusedVariables false
set_option linter.unusedSimpArgs false
namespace Go.Proofs.YtglnkpgfdjnhnaaGreatDoor
open Go Go.RowKit Sy

/-- The right path by the first entry that has the text. -/
def bySE (es : List Ent) (s : Str) : Option Str := match es.find? (fun x => hasS x.left x.hs s) with
  | some x => fwd x.rule s
  | none => none
def byV (es : List Ent) (s : Str) : Value := .tuple #[.string (bs ((bySE es s).getD [])), .bool (bySE es s).isSome]
theorem bySE_hit {es : List Ent} {s : Str} {k : Nat} {x : Ent} (hk : es[k]? = some x) (hx : hasS x.left x.hs s = true) (hall : ∀ j q, j < k → es[j]? = some q → hasS q.left q.hs s = false) : byV es s = fwdV x.rule s := by
  have hf : es.find? (fun x => hasS x.left x.hs s) = some x := by
    obtain ⟨hlt, rfl⟩ := List.getElem?_eq_some_iff.1 hk
    rw [List.find?_eq_some_iff_getElem]
    exact ⟨hx, k, hlt, rfl, fun j hj => by rw [hall j _ hj (List.getElem?_eq_getElem (by omega))]; rfl⟩
  unfold byV bySE fwdV
  rw [hf]
theorem bySE_miss {es : List Ent} {s : Str} (hall : ∀ j q, j < es.length → es[j]? = some q → hasS q.left q.hs s = false) : byV es s = .tuple #[.string (bs []), .bool false] := by
  have hf : es.find? (fun x => hasS x.left x.hs s) = none := by
    rw [List.find?_eq_none]
    intro x hx
    obtain ⟨j, hj, e⟩ := List.mem_iff_getElem.1 hx
    rw [hall j x hj (by rw [List.getElem?_eq_getElem hj, e])]
    simp
  unfold byV bySE
  rw [hf]
  rfl

set_option maxHeartbeats 4000000 in
theorem by_c (es : List Ent) (s : Str) (n c : Nat) (A : Option Addr) (w : World) (h : EntsR w A es) (hn : es.length = n) (hl : n ≤ 9223372036854775807) (hsl : s.length ≤ 10000) (hsm : ∀ x ∈ es, SmallV x.rule) (hM : MaxL w) :
    Calls Tryz.prog 10 #[.slice A n c, .string (bs s)] w fun e w' => e = .returned (byV es s) ∧ Calm w w' := by
  have HE := Lib.hid h
  have HN := Lib.hid hn
  have HS := Lib.hid hsm
  have HM := Lib.hid hM
  clear h hn hsm hM
  go_enter Tryz.func10, Tryz.ntmps10
  go_wp2_with fail
  go_loopw [10] (fun u wr => ∃ k : Nat, k ≤ n ∧ u = .int .i64 k ∧ Hid (∀ j q, j < k → es[j]? = some q → hasS q.left q.hs s = false) ∧ Hid (Calm w wr)) (fun u _ => n - (intOf u).toNat)
  case atStart => exact ⟨0, Nat.zero_le _, rfl, fun j h hj => absurd hj (Nat.not_lt_zero _), Calm.refl _⟩
  case round =>
    obtain ⟨k, hk, rfl, HI, HCr⟩ := hrel
    obtain ⟨wq, rfl⟩ : ∃ wq, wq = wr := ⟨_, rfl⟩
    by_cases hlt : k < n
    · obtain ⟨b, o, z, rfl, hb, hz, c0, c1, c2, c3, c4, hu⟩ := (HE.out.calm HCr.out).get (k := k) (by rw [HN.out]; exact hlt)
      obtain ⟨e0, he0⟩ : ∃ e0, z.e = e0 := ⟨_, rfl⟩
      have ul := hu.l
      have ur := hu.r
      have uh := hu.h
      have hhc := hu.room
      have hhc2 := hu.cap
      rw [he0] at c0 c1 c2 c3 c4 ul ur uh hz hhc
      obtain ⟨nl, hnl⟩ : ∃ nl, e0.left.parts.length = nl := ⟨_, rfl⟩
      obtain ⟨nr, hnr⟩ : ∃ nr, e0.right.parts.length = nr := ⟨_, rfl⟩
      obtain ⟨lr, hlr⟩ : ∃ lr, e0.left.rest = lr := ⟨_, rfl⟩
      obtain ⟨rr, hrr⟩ : ∃ rr, e0.right.rest = rr := ⟨_, rfl⟩
      obtain ⟨hn, hhn⟩ : ∃ hn, e0.hs.length = hn := ⟨_, rfl⟩
      rw [hnl] at c0
      rw [hlr] at c1
      rw [hnr] at c2
      rw [hrr] at c3
      rw [hhn] at c4
      obtain ⟨v, hv⟩ : ∃ v, hasS e0.left e0.hs s = v := ⟨_, rfl⟩
      have KH : Hid (∀ W, Calm wq W → Calls Tryz.prog 24 #[.agg #[.slice z.LA nl z.lc, .bool lr, .slice z.HA hn z.hc], .string (bs s)] W fun e w' => e = .returned (.bool v) ∧ Calm W w') := fun W hW => by
        have := rhas_c e0.left e0.hs s z.LA z.lc z.HA z.hc W hsl (ul.calm hW).r ul.room ul.cap (uh.calm hW) (HM.out.calm (HCr.out.trans hW))
        rw [hnl, hlr, hhn, hv] at this
        exact this
      have KF : Hid (∀ W, Calm wq W → Calls Tryz.prog 25 #[.agg #[.bool false, .slice z.LA nl z.lc, .bool lr, .slice z.RA nr z.rc, .bool rr], .string (bs s)] W fun e w' => e = .returned (fwdV e0.rule s) ∧ Calm W w') := fun W hW => by
        have := rfwd_c e0.rule ⟨z.LA, z.lc, z.RA, z.rc⟩ s W ⟨(ul.calm hW).r.toU, (ur.calm hW).r.toU, ul.room, ur.room, ul.cap, ur.cap⟩ (HS.out e0 (List.mem_of_getElem? hz)) hsl (HM.out.calm (HCr.out.trans hW))
        unfold ruleV Ent.rule at this
        simp only [hnl, hnr, hlr, hrr] at this
        exact this
      have HZ := Lib.hid hz
      have HV := Lib.hid hv
      obtain ⟨B, hB⟩ : ∃ B, wq.heap.size = B := ⟨_, rfl⟩
      obtain ⟨wb, hwb⟩ : ∃ wb, wb = wq.alloc (.cells #[.slice z.LA nl z.lc, .bool lr, .slice z.RA nr z.rc, .bool rr, .slice z.HA hn z.hc] 51) := ⟨_, rfl⟩
      have hf : FiveB wb B (.slice z.LA nl z.lc) (.bool lr) (.slice z.RA nr z.rc) (.bool rr) (.slice z.HA hn z.hc) := by
        rw [hwb, ← hB]
        exact FiveB.new wq _ _ _ _ _ _
      have hcb : Calm wq wb := by
        show Below _ _ _
        rw [hwb]
        exact (Calm.refl _).alloc _
      have HF := Lib.hid hf
      have HCb := Lib.hid hcb
      have HWb := Lib.hid hwb
      have HBB := Lib.hid hB
      clear hz he0 hu ul ur uh hnl hnr hlr hrr hhn hv hf hcb hwb hB
      go_wp2_with fail
      rw [← HWb.out]
      refine (KH.out wb HCb.out).mono ?_
      rintro e w3 ⟨rfl, hc3⟩
      have HC3 : Hid (Calm wq w3) := HCb.out.trans hc3
      rw [HBB.out]
      clear c0 c1 c2 c3 c4
      cases v with
      | false =>
        clear hc3
        go_wp2_with fail
        go_roundw
        case rel => exact ⟨k + 1, by omega, by go_num, none_step (pr := fun q : Ent => hasS q.left q.hs s) HZ.out HV.out HI.out, HCr.out.trans HC3.out⟩
        case measure => simp [intOf]; omega
      | true =>
        have f3 := HF.out.calm hc3
        have c0 := f3.c0
        have c1 := f3.c1
        have c2 := f3.c2
        have c3 := f3.c3
        have c4 := f3.c4
        have HBy : Hid (byV es s = fwdV e0.rule s) := bySE_hit HZ.out HV.out HI.out
        clear hc3 f3
        go_wp2_with fail
        refine (KF.out w3 HC3.out).mono ?_
        rintro e w4 ⟨rfl, hc4⟩
        unfold fwdV
        clear c0 c1 c2 c3 c4
        go_wp2_with fail
        go_ret2
        exact ⟨by rw [HBy.out]; rfl, HCr.out.trans (HC3.out.trans hc4)⟩
    · obtain rfl : k = n := by omega
      have HBy : Hid (byV es s = .tuple #[.string (bs []), .bool false]) := bySE_miss (fun j q hj hq => HI.out j q (by rw [HN.out] at hj; exact hj) hq)
      go_wp2_with fail
      go_ret2
      exact ⟨by rw [HBy.out]; rfl, HCr.out⟩
end Go.Proofs.YtglnkpgfdjnhnaaGreatDoor
set_option linter.unusedVariables false
set_option linter.unusedSimpArgs false
namespace Go.Proofs.YtglnkpgfdjnhnaaGreatDoor
open Go Go.RowKit Sy

theorem join_app_len (K : Nat) (b : List Str) : ∀ a : List Str, (∀ x ∈ a, x.length ≤ K) → (Lib.join (a ++ b) [47]).length ≤ a.length * (K + 1) + (Lib.join b [47]).length
  | [], _ => by simp
  | x :: a, h => by
    have ih := join_app_len K b a (fun y hy => h y (by simp [hy]))
    have hx := h x (by simp)
    rw [List.cons_append, List.length_cons, Nat.succ_mul]
    rcases hab : a ++ b with _ | ⟨y, t⟩
    · rw [join47_one]
      omega
    · rw [join47_cons, ← hab]
      simp only [List.length_append, List.length_cons]
      omega
theorem fwd_len {r : Rule} {s t : Str} (hsm : SmallV r) (hs : s.length ≤ 300) (h : fwd r s = some t) : t.length ≤ 5000 := by
  obtain ⟨l, h0, hp, hm, ht, _⟩ := fwd_some h
  have tw := ruleErr_twin.1 h0
  have h12 := patErr_len tw.rp
  obtain ⟨h2, h3, h4⟩ := pathOf_some hp
  have hjl : (Lib.join l [47]).length ≤ 300 := by
    rw [h4] at hs
    simp only [pathStr, List.length_cons] at hs
    omega
  have hea : ∀ x ∈ l, x.length ≤ 300 := by
    have hh : l = slash (Lib.join l [47]) := (slash_join l (by rintro rfl; simp at h2) (fun x hx => comp_no47 (List.all_eq_true.1 h3 x hx))).symm
    intro x hx
    rw [hh] at hx
    have := slash_each _ x hx
    omega
  have hcs := capsTo_each (p := r.left) hea r.left.parts.length
  have hK : ∀ x ∈ fillR r.right.parts (capsTo r.left l r.left.parts.length), x.length ≤ 360 := by
    intro y hy
    obtain ⟨j, hj, e⟩ := List.mem_iff_getElem.1 hy
    have hjl : j < r.right.parts.length := by rw [fillR_len] at hj; exact hj
    have h1 := fillR_get r.right.parts (capsTo r.left l r.left.parts.length) j _ (List.getElem?_eq_getElem hjl)
    rw [List.getElem?_eq_getElem hj, e] at h1
    simp only [Option.some.injEq] at h1
    have h2 := hsm.rs _ (List.getElem_mem hjl)
    rw [h1]
    split
    · rw [List.length_append, List.length_tail]
      have h3 : ((capsTo r.left l r.left.parts.length).getD ((r.right.parts.take j).filter isStar).length []).length ≤ 300 := by
        rw [List.getD_eq_getElem?_getD]
        rcases e : (capsTo r.left l r.left.parts.length)[((r.right.parts.take j).filter isStar).length]? with _ | y
        · simp
        · exact hcs y (List.mem_of_getElem? e)
      omega
    · omega
  have hfl := fillR_len r.right.parts (capsTo r.left l r.left.parts.length)
  have hrest : (Lib.join (if r.right.rest then l.drop r.left.parts.length else []) [47]).length ≤ 300 := by
    split
    · have := join_drop_le r.left.parts.length l
      omega
    · simp [Lib.join, List.intercalate]
  have hj := join_app_len 360 (if r.right.rest then l.drop r.left.parts.length else []) _ hK
  rw [ht, pathStr, trL]
  simp only [List.length_cons]
  rw [hfl] at hj
  have : r.right.parts.length * (360 + 1) ≤ 12 * 361 := Nat.mul_le_mul h12 (Nat.le_refl _)
  omega

theorem vfwd_v (v : List Rule) (s : Str) (u : Value) (A : Option Addr) (n c : Nat) (w : World) (hs : s.length ≤ 300) (hM : MaxL w) (hv : RulesU w A v) (hsm : ∀ r ∈ v, SmallV r) (hn : v.length = n) (hu : vfV v s = u) :
    Calls Tryz.prog 11 #[.slice A n c, .string (bs s)] w fun e w' => e = .returned u ∧ Calm w w' :=
  hu ▸ vfwd_c v s A n c w (by omega) hM hv hsm hn (fun k r t _ hr hf => by have := fwd_len (hsm r (List.mem_of_getElem? hr)) hs hf; omega)
theorem rfwd_v (r : Rule) (a : Pl) (s : Str) (u : Value) (w : World) (hr : RuleU w a r) (hsm : SmallV r) (hs : s.length ≤ 10000) (hM : MaxL w) (h : fwdV r s = u) :
    Calls Tryz.prog 25 #[.agg #[.bool r.excl, .slice a.AL r.left.parts.length a.cl, .bool r.left.rest, .slice a.AR r.right.parts.length a.cr, .bool r.right.rest], .string (bs s)] w fun e w' => e = .returned u ∧ Calm w w' := h ▸ rfwd_c r a s w hr hsm hs hM
end Go.Proofs.YtglnkpgfdjnhnaaGreatDoor
set_option linter.unusedVariables false
set_option linter.unusedSimpArgs false
namespace Go.Proofs.YtglnkpgfdjnhnaaGreatDoor
open Go Go.RowKit Sy

theorem hasS_hasG {x : Ent} {s : Str} {l : List Str} (hp : pathOf s = some l) (hg : gErr x.reg = 0) : hasS x.left x.hs s = hasG x.reg l := by
  obtain ⟨h1, h2, _⟩ := gErr_zero hg
  rw [hasS_hasR (b := x.left) (hs := x.hs) h1 h2, hasR, hp]
  rfl
theorem bySE_byE {s : Str} {l : List Str} (hp : pathOf s = some l) : ∀ {es : List Ent}, (∀ x ∈ es, gErr x.reg = 0) → bySE es s = byE es s l
  | [], _ => rfl
  | x :: es, hg => by
    have ih := bySE_byE hp (es := es) (fun y hy => hg y (List.mem_cons_of_mem _ hy))
    have h1 := hasS_hasG hp (hg x (by simp))
    unfold bySE byE at ih ⊢
    rw [List.find?_cons, List.find?_cons, h1]
    rcases hasG x.reg l with _ | _
    · exact ih
    · rfl
theorem hasS_nopath {b : Pat} {hs : List Pat} {s : Str} (hp : pathOf s = none) : hasS b hs s = false := by
  have : matchS b s = false := by rw [matchS, hp]
  rw [hasS, this]
  rfl
theorem bySE_nopath {s : Str} (hp : pathOf s = none) (es : List Ent) : bySE es s = none := by
  unfold bySE
  have : es.find? (fun x => hasS x.left x.hs s) = none := by
    rw [List.find?_eq_none]
    intro x _
    rw [hasS_nopath hp]
    simp
  rw [this]
theorem vfwd_nopath {v : List Rule} {s : Str} (hp : pathOf s = none) : vfwd v s = none := by
  rcases h : vfwd v s with _ | t
  · rfl
  · obtain ⟨_, k, r, _, _, _, hf, _⟩ := vfwd_some.1 h
    unfold fwd at hf
    rw [hp] at hf
    split at hf <;> cases hf
/-- The entries answer as the view. -/
theorem ents_by {v : List Rule} {es : List Ent} (hv : viewErr v = 0) (he : entsL v = some es) (s : Str) : byV es s = vfV v s := by
  have hg := (ents_good hv he).2
  unfold byV vfV
  rcases hp : pathOf s with _ | l
  · rw [bySE_nopath hp, vfwd_nopath hp]
  · rw [bySE_byE hp (fun x hx => (hg x hx).2.1), (ents_mean hp hv he).1]
/-- No two entries answer. -/
theorem ents_one {v : List Rule} {es : List Ent} (hv : viewErr v = 0) (he : entsL v = some es) (s : Str) : (es.countP fun x => (bySE [x] s).isSome) ≤ 1 := by
  have hg := (ents_good hv he).2
  rcases hp : pathOf s with _ | l
  · have : (es.countP fun x => (bySE [x] s).isSome) = 0 := by
      rw [List.countP_eq_zero]
      intro x _
      rw [bySE_nopath hp]
      simp
    omega
  · have h1 : (es.countP fun x => (bySE [x] s).isSome) ≤ es.countP fun x => hasG x.reg l := by
      refine List.countP_mono_left fun x hx h => ?_
      rw [← hasS_hasG hp (hg x hx).2.1]
      unfold bySE at h
      rcases hh : hasS x.left x.hs s with _ | _
      · rw [List.find?_cons, hh] at h
        simp at h
      · rfl
    have h2 := (ents_mean hp hv he).2
    rw [h2] at h1
    split at h1 <;> omega
theorem entE_ok {v : List Rule} {es : List Ent} (h : entE v = (es, 0)) : viewErr v = 0 ∧ entsL v = some es := by
  unfold entE at h
  by_cases h0 : viewErr v ≠ 0
  · rw [if_pos h0] at h
    exact absurd (congrArg Prod.snd h) h0
  · rw [if_neg h0] at h
    refine ⟨by simpa using h0, ?_⟩
    rcases he : entsL v with _ | es'
    · rw [he] at h
      cases h
    · rw [he] at h
      simp only [Prod.mk.injEq, and_true] at h
      rw [h]
theorem countP_take {α : Type} {p : α → Bool} {l : List α} {k : Nat} {x : α} (h : l[k]? = some x) : (l.take (k + 1)).countP p = (l.take k).countP p + if p x then 1 else 0 := by
  rw [take_snoc h, List.countP_append, List.countP_singleton]
theorem EntsR.one {w : World} {A : Option Addr} {es : List Ent} {b o k : Nat} (h : EntsR w (some ⟨b, o, none⟩) es) {x : Ent} (hk : es[k]? = some x) (hA : A = some ⟨b, o + k * 5, none⟩) : EntsR w A [x] := by
  obtain ⟨zs, rfl, h2, h3⟩ := h
  rw [List.getElem?_map] at hk
  obtain ⟨z, hz, rfl⟩ := Option.map_eq_some_iff.1 hk
  obtain ⟨b', o', e, hb, hc⟩ := h2 (fun e => by rw [e] at hz; cases hz)
  obtain ⟨rfl, rfl⟩ : b = b' ∧ o = o' := by simpa using e
  refine ⟨[z], rfl, fun _ => ⟨b, o + k * 5, hA, hb, fun j y hy i u hu => ?_⟩, fun y hy => by rw [List.mem_singleton] at hy; subst hy; exact h3 _ (List.mem_of_getElem? hz)⟩
  have h0 : j = 0 := by
    have := (List.getElem?_eq_some_iff.1 hy).1
    simp at this
    exact this
  subst h0
  obtain rfl : z = y := by simpa using hy
  have := hc k z hz i u hu
  have e2 : o + k * 5 + 0 * 5 + i = o + k * 5 + i := by omega
  rw [e2]
  exact this

set_option maxRecDepth 100000 in
set_option maxHeartbeats 8000000 in
theorem viewEntMean_c (v : List Rule) (s : Str) (A : Option Addr) (n c : Nat) (w : World) (hv : RulesU w A v) (hn : v.length = n) (hnc : n ≤ c) (hcc : c ≤ 1048576) (hs : s.length ≤ 1048576) (hM : MaxL w) :
    Calls Tryz.prog 4 #[.slice A n c, .string (bs s)] w fun e w' => e = .returned (.bool true) ∧ Calm w w' := by
  obtain ⟨y, hy⟩ : ∃ y, smallW v = y := ⟨_, rfl⟩
  have hsmall := smallv_c v y A n c w hv hn hy
  have KA : Hid (∀ W, Calm w W → Calls Tryz.prog 6 #[] W fun e w' => e = .returned (.bool true) ∧ Calm W w') := fun W hW => awakev_c W (hM.calm hW)
  have hss := bs_size s
  cases y with
  | false =>
    clear hv hn hM hy
    go_enter Tryz.func4, Tryz.ntmps4
    go_wp2_with (first
      | (go_at_call 5; refine hsmall.mono ?_; rintro e w2 ⟨rfl, hc2⟩)
      | (go_at_call 6; refine (KA.out w2 hc2).mono ?_; rintro e w3 ⟨rfl, hc3⟩))
    go_ret
    exact ⟨rfl, hc2.trans hc3⟩
  | true =>
    obtain ⟨hsm, h20⟩ := smallW_small hy
    rw [hn] at h20
    by_cases h3 : s.length ≤ 300
    · have h3i : ¬ (300 : Int) < (s.length : Int) := by omega
      obtain ⟨⟨es, x⟩, hX⟩ : ∃ X, entE v = X := ⟨_, rfl⟩
      obtain ⟨l, hl⟩ : ∃ l, es.length = l := ⟨_, rfl⟩
      have KE : Hid (∀ W, Calm w W → Calls Tryz.prog 7 #[.slice A n c] W fun e w' => (∃ A1 c1, e = .returned (.tuple #[.slice A1 l c1, .int .i64 x]) ∧ EntsR w' A1 es ∧ l ≤ c1 ∧ c1 ≤ 9223372036854775807) ∧ Calm W w') := fun W hW => by
        have := entries_c v A n c W (hv.calm hW) hsm hn h20 hnc (by omega)
        rw [hX] at this
        refine this.mono fun e w' h => ?_
        obtain ⟨h1, h2⟩ := h
        obtain ⟨A1, c1, h3, h4, h5, h6⟩ := h1.out
        simp only [hl] at h3 h5
        exact ⟨⟨A1, c1, h3, h4, h5, h6⟩, h2⟩
      by_cases hx0 : x = 0
      · subst hx0
        obtain ⟨hve, hel⟩ := entE_ok hX
        obtain ⟨hlen, hgood⟩ := ents_good hve hel
        rw [hl, hn] at hlen
        have hesm : ∀ x ∈ es, SmallV x.rule := fun x hx => by
          obtain ⟨_, _, r, hr, e1, e2⟩ := hgood x hx
          have := hsm r hr
          exact ⟨by show x.left.parts.length ≤ 200; rw [e1]; exact this.lp, by show ∀ y ∈ x.left.parts, y.length ≤ 60; rw [e1]; exact this.ls, by show x.right.parts.length ≤ 200; rw [e2]; exact this.rp, by show ∀ y ∈ x.right.parts, y.length ≤ 60; rw [e2]; exact this.rs⟩
        have hone := ents_one hve hel s
        have hby := ents_by hve hel s
        obtain ⟨fs, hfs⟩ : ∃ fs, bs ((vfwd v s).getD []) = fs := ⟨_, rfl⟩
        obtain ⟨fb, hfb⟩ : ∃ fb, (vfwd v s).isSome = fb := ⟨_, rfl⟩
        have hvf : vfV v s = .tuple #[.string fs, .bool fb] := by rw [vfV, hfs, hfb]
        rw [hvf] at hby
        have KF : Hid (∀ W, Calm w W → Calls Tryz.prog 11 #[.slice A n c, .string (bs s)] W fun e w' => e = .returned (.tuple #[.string fs, .bool fb]) ∧ Calm W w') := fun W hW => vfwd_v v s _ A n c W h3 (hM.calm hW) (hv.calm hW) hsm hn hvf
        have KB : Hid (∀ W A1 c1, Calm w W → EntsR W A1 es → Calls Tryz.prog 10 #[.slice A1 l c1, .string (bs s)] W fun e w' => e = .returned (.tuple #[.string fs, .bool fb]) ∧ Calm W w') := fun W A1 c1 hW he => by
          have := by_c es s l c1 A1 W he hl (by omega) (by omega) hesm (hM.calm hW)
          rw [hby] at this
          exact this
        have KB1 : Hid (∀ W A1 c1 y, Calm w W → y ∈ es → EntsR W A1 [y] → Calls Tryz.prog 10 #[.slice A1 1 c1, .string (bs s)] W fun e w' => e = .returned (byV [y] s) ∧ Calm W w') := fun W A1 c1 y hW hy he =>
          by_c [y] s 1 c1 A1 W he rfl (by omega) (by omega) (fun z hz => by rw [List.mem_singleton] at hz; subst hz; exact hesm z hy) (hM.calm hW)
        have HL := Lib.hid hl
        have HOne := Lib.hid hone
        clear hv hn hM hy hsm hX hl hve hel hgood hesm hone hby hfs hfb hvf
        go_enter Tryz.func4, Tryz.ntmps4
        go_wp2_with (first
          | (go_at_call 5; refine hsmall.mono ?_; rintro e w2 ⟨rfl, hc2⟩)
          | (go_at_call 7; refine (KE.out w2 hc2).mono ?_; rintro e w3 ⟨⟨A1, c1, rfl, he1, hl1, hl2⟩, hc3⟩; have HC3 := Lib.hid (hc2.trans hc3); have HE1 := Lib.hid he1; clear he1))
        go_loopw [7, 34] (fun u7 u wr => ∃ k t : Nat, k ≤ l ∧ u = .int .i64 k ∧ u7 = .int .i64 t ∧ t ≤ k ∧ Hid ((es.take k).countP (fun x => (bySE [x] s).isSome) = t) ∧ Hid (Calm w3 wr)) (fun _ u _ => l - (intOf u).toNat)
        case atStart => exact ⟨0, 0, Nat.zero_le _, rfl, rfl, Nat.le_refl _, rfl, Calm.refl _⟩
        case round =>
          obtain ⟨k, t, hk, rfl, rfl, ht, HT, HC⟩ := hrel
          by_cases hlt : k < l
          · obtain ⟨b, o, z, rfl, hb, hz, _⟩ := HE1.out.get (k := k) (by rw [HL.out]; exact hlt)
            have he : EntsR wr (some ⟨b, o + k * 5, none⟩) [z.e] := (HE1.out.calm HC.out).one hz rfl
            obtain ⟨gs, hgs⟩ : ∃ gs, bs ((bySE [z.e] s).getD []) = gs := ⟨_, rfl⟩
            obtain ⟨gb, hgb⟩ : ∃ gb, (bySE [z.e] s).isSome = gb := ⟨_, rfl⟩
            have KB2 : Hid (∀ c9, Calls Tryz.prog 10 #[.slice (some ⟨b, o + k * 5, none⟩) 1 c9, .string (bs s)] wr fun e w' => e = .returned (.tuple #[.string gs, .bool gb]) ∧ Calm wr w') := fun c9 => by
              have := KB1.out wr (some ⟨b, o + k * 5, none⟩) c9 z.e (HC3.out.trans HC.out) (List.mem_of_getElem? hz) he
              unfold byV at this
              rw [hgs, hgb] at this
              exact this
            have hct := countP_take (p := fun x => (bySE [x] s).isSome) hz
            rw [HT.out, hgb] at hct
            have HCt := Lib.hid hct
            have hck : ¬ c1 = k := by omega
            have hi1 : (0 : Int) ≤ (k : Int) := by omega
            have hi2 : (k : Int) ≤ (k : Int) + 1 := by omega
            have hi3 : (k : Int) + 1 ≤ (c1 : Int) := by omega
            have hiw : IntKind.i64.wrap ((k : Int) + 1) = (k : Int) + 1 := by rw [IntKind.wrap_i64]; omega
            clear hz he hgs hgb hct
            cases gb with
            | true =>
              have HT2 : Hid ((es.take (k + 1)).countP (fun x => (bySE [x] s).isSome) = t + 1) := by
                show _ = _
                rw [HCt.out]
                rfl
              go_wp2_with (go_at_call 10; refine (KB2.out _).mono ?_; rintro e w5 ⟨rfl, hc5⟩)
              go_roundw
              case rel => exact ⟨k + 1, t + 1, by omega, by go_num, by go_num, by omega, HT2, HC.out.trans hc5⟩
              case measure => simp [intOf]; omega
            | false =>
              have HT2 : Hid ((es.take (k + 1)).countP (fun x => (bySE [x] s).isSome) = t) := by
                show _ = _
                rw [HCt.out]
                rfl
              go_wp2_with (go_at_call 10; refine (KB2.out _).mono ?_; rintro e w5 ⟨rfl, hc5⟩)
              go_roundw
              case rel => exact ⟨k + 1, t, by omega, by go_num, rfl, by omega, HT2, HC.out.trans hc5⟩
              case measure => simp [intOf]; omega
          · obtain rfl : k = l := by omega
            have ht1 : t ≤ 1 := by
              have h1 := HT.out
              rw [List.take_of_length_le (by rw [HL.out]; exact Nat.le_refl _)] at h1
              have := HOne.out
              omega
            have ht2 : (t : Int) ≤ 1 := by omega
            have hbb : (fb == fb) = true := by simp
            have HEr := Lib.hid (HE1.out.calm HC.out)
            have HCr := Lib.hid (HC3.out.trans HC.out)
            go_wp2_with (first
              | (go_at_call 10; refine (KB.out wr A1 c1 HCr.out HEr.out).mono ?_; rintro e w5 ⟨rfl, hc5⟩; have HC5 := Lib.hid (HCr.out.trans hc5))
              | (go_at_call 11; refine (KF.out w5 HC5.out).mono ?_; rintro e w6 ⟨rfl, hc6⟩; have HC6 := Lib.hid (HC5.out.trans hc6))
              | (go_at_call 6; refine (KA.out w6 HC6.out).mono ?_; rintro e w7 ⟨rfl, hc7⟩))
            go_ret
            exact ⟨rfl, HC6.out.trans hc7⟩
      · have hx1 : (x == 0) = false := by rw [beq_eq_false_iff_ne]; exact hx0
        clear hv hn hM hy hsm hX hl
        go_enter Tryz.func4, Tryz.ntmps4
        go_wp2_with (first
          | (go_at_call 5; refine hsmall.mono ?_; rintro e w2 ⟨rfl, hc2⟩)
          | (go_at_call 7; refine (KE.out w2 hc2).mono ?_; rintro e w3 ⟨⟨A1, c1, rfl, he1, hl1, hl2⟩, hc3⟩)
          | (go_at_call 6; refine (KA.out w3 (hc2.trans hc3)).mono ?_; rintro e w4 ⟨rfl, hc4⟩))
        go_ret
        exact ⟨rfl, hc2.trans (hc3.trans hc4)⟩
    · have h3i : (300 : Int) < (s.length : Int) := by omega
      clear hv hn hM hy hsm
      go_enter Tryz.func4, Tryz.ntmps4
      go_wp2_with (first
        | (go_at_call 5; refine hsmall.mono ?_; rintro e w2 ⟨rfl, hc2⟩)
        | (go_at_call 6; refine (KA.out w2 hc2).mono ?_; rintro e w3 ⟨rfl, hc3⟩))
      go_ret
      exact ⟨rfl, hc2.trans hc3⟩
end Go.Proofs.YtglnkpgfdjnhnaaGreatDoor
set_option linter.unusedVariables false
set_option linter.unusedSimpArgs false
namespace Go.Proofs.YtglnkpgfdjnhnaaGreatDoor.viewEntriesMeanUpto
open Go.ChangeShapes Go.WideShapes Go.ChangeAt Go.RowKit Sy

theorem own : ownKnob Tryz.prog.godebug = none := by kernel_rfl
theorem laidOut : laidOutB Tryz.prog = true := by kernel_rfl
def accZ : List Int := [128, 191, 160, 191, 128, 159, 144, 191, 128, 143, 0, 0, 0, 0, 0, 0, 0, 0, 0, 0, 0, 0, 0, 0, 0, 0, 0, 0, 0, 0, 0, 0]

theorem maxL {W : World} (h : W.ShapedOpen Tryz.prog) : MaxL W := by
  obtain ⟨m, hm⟩ := Tryz.laysM146.s1_3 W h
  exact ⟨(cell_lt hm).1, m, hm⟩

set_option maxRecDepth 100000 in
/-- What the walk gives, for every argument and every world that holds the tables. -/
theorem contract (H : Type) (enc : TypeId × Value → H) (W : World) (base : Nat) (args : Array Value) (ds gs : List (DataW H)) (before : List MemPlace)
    (hval : ∀ (j : Nat) t v, Tryz.f4.params[j]? = some t → args[j]? = some v → Value.okWide Tryz.prog W .any base t v)
    (hW : DataW.Whole enc Tryz.prog Tryz.f4.params.toList Rows.viewEntriesMeanSpec.vars false W args.toList ds gs before)
    (hsz : (DataW.weightsEach Tryz.prog (Tryz.f4.params.toList ++ ((OpenSpec.ofChange Rows.viewEntriesMeanSpec).bare.plain.varTypes Tryz.prog)) (ds ++ gs)).all (· ≤ reachBytes) = true) (hk : Rows.uptoSmall H (ds ++ gs) = true) (hL : laidMetH Tryz.prog Rows.viewEntriesMeanUptoRow.laid W) (hsh : W.ShapedOpen Tryz.prog) :
    Calls Tryz.prog 4 args W fun e W' => ∃ v, e = .returned v ∧ Rows.viewEntriesMeanSpec.post enc Tryz.prog Tryz.f4 false true false false W args v W' := by
  have hW' := hW
  obtain ⟨p, q, hA0, hV, rfl, hfz, hnd⟩ := hW
  have hA : DataW.TrodAll enc Tryz.prog W 0 (fun _ => true) true Tryz.f4.params.toList args.toList ds p := hA0
  rw [Tryz.params4] at hA hval hsz
  obtain ⟨v0, vs0, d0, ds0, p0, q0, hargs, rfl, rfl, h0, r0⟩ := trodAll_cons hA
  obtain ⟨v1, vs1, d1, ds1, p1, q1, rfl, rfl, rfl, h1, r1⟩ := trodAll_cons r0
  obtain ⟨rfl, rfl, rfl⟩ := trodAll_nil r1
  obtain rfl : args = #[v0, v1] := by cases args; simp_all
  obtain ⟨rfl, rfl⟩ := trodVars_none hV
  clear hA0
  simp only [List.append_nil] at hW'
  have hkb : Rows.uptoBulkAll [d0, d1] ≤ 1048576 := of_decide_eq_true hk
  obtain ⟨RA, rs, rc, rfl, q1, q2, q3⟩ := open_rulesL (hval 0 22 v0 rfl rfl) h0 (bulks.all_part hkb (show d0 ∈ [d0, d1] by simp))
  obtain ⟨s, rfl, hsd, hs1⟩ := open_strD (hval 1 9 v1 rfl rfl) h1
  have hsb := bulks.all_part hkb (show d1 ∈ [d0, d1] by simp)
  rw [hsd, bulks.string_eq] at hsb
  have hs1 : s.length ≤ 1048576 := by omega
  have hlt0 : ∀ x ∈ p0, x.block < W.heap.size := fun x hx => by simpa using hW'.lt x (by simp [hx])
  have hlt1 : ∀ x ∈ p1, x.block < W.heap.size := fun x hx => by simpa using hW'.lt x (by simp [hx])
  refine (viewEntMean_c rs s RA rs.length rc W q1 rfl q2 q3 hs1 (maxL hsh)).mono fun e W' ⟨he, hg⟩ => ?_
  subst he
  have h0' : DataW.Trod enc Tryz.prog W' 0 (fun b => decide (b < W.heap.size)) true 22 _ _ p0 := Below.trod laidOut (by kernel_rfl) (of_decide_eq_true (by kernel_rfl)) h0 hg hlt0
  have h1' : DataW.Trod enc Tryz.prog W' 0 (fun b => decide (b < W.heap.size)) true 9 _ _ p1 := Below.trod laidOut (by kernel_rfl) (of_decide_eq_true (by kernel_rfl)) h1 hg hlt1
  refine ⟨_, rfl, _, _, _, [], _, [], hW', ?_, trodAll_mk2 h0' h1', rfl, hg.frame _, fun h => by cases h⟩
  exact trodAll_mk1 (shut_bool Tryz.underlying4 _)

def argsW : Array Value := #[.slice none 0 0, .string ⟨#[]⟩]
/-- A world for the witness: the settled one, the listed tables holding what their text lays. -/
noncomputable def laidWorld (os : Os) : World :=
  { World.holding Tryz.prog os ⟨#[], #[], []⟩ with heap := (((World.holding Tryz.prog os ⟨#[], #[], []⟩).heap.modify 2 (fun
      | .cells _ t frozen => .cells (accZ.map fun z => Value.int .u8 z).toArray t frozen
      | o => o)).modify 1 (fun
      | .cells _ t frozen => .cells (Go.Pinned.utf8FirstZ.map fun z : Nat => Value.int .u8 (z : Int)).toArray t frozen
      | o => o)) }
theorem laid_met (os : Os) : laidMet Tryz.prog Rows.viewEntriesMeanUptoRow.laid ((laidWorld os).forCall (fun _ _ => 0) ⟨#[], argsW, []⟩).memory :=
  laidMet_of_run' 8 (by kernel_rfl) (by kernel_rfl)
theorem reads (os : Os) {H : Type} (enc : TypeId × Value → H) : ∃ places, DataW.whole enc Tryz.prog ((laidWorld os).forCall (fun _ _ => 0) ⟨#[], argsW, []⟩).memory Tryz.f4.params.toList Rows.viewEntriesMeanSpec.vars false argsW.toList 8 = some ([.nil, .lit (.string [])], [], places) :=
  ⟨[], by kernel_rfl⟩

set_option maxRecDepth 100000 in
theorem lifted (os : Os) (started : os.Started) (H : Type) (enc : TypeId × Value → H) (F : Stop.Interp) :
    ReturnsInHanded {} Tryz.checked os 4 .any ((Rows.OpenSpec.upto Rows.viewEntriesMeanSpec).preRow enc Tryz.prog Tryz.f4 Rows.viewEntriesMeanUptoRow.domain false Rows.viewEntriesMeanUptoRow.laid) (((Rows.OpenSpec.upto Rows.viewEntriesMeanSpec).at F).post enc Tryz.prog Tryz.f4 false true false false) := by
  obtain ⟨places, hx⟩ := reads os enc
  refine returnsInHanded_of_row (C := Tryz.checked) (s := Rows.OpenSpec.upto Rows.viewEntriesMeanSpec) own started (by kernel_rfl) Tryz.func4
    (witness_row_at (enc := enc) (C := Tryz.checked) false (laidWorld os) argsW rfl (by kernel_rfl) (by kernel_rfl) (by kernel_rfl)
      (OpenSpec.preRow_of_cond 8 hx (by kernel_rfl) (fun k hk => by cases hk; kernel_rfl) (by kernel_rfl) (laid_met os))) ?_
  intro W base args ds gs before hval hW hcnd hcond hsz hL hsh _
  exact contract H enc W base args ds gs before hval hW hsz (hcond _ rfl) hL hsh

theorem said : Rows.ViewEntriesMeanUptoSaid :=
  OpenClaim.holds_of_cond 4 Tryz.f4 rfl rfl rfl rfl rfl rfl rfl ⟨rfl, rfl, rfl, rfl, rfl⟩ rfl rfl rfl rfl rfl (by kernel_rfl) Tryz.func4 (by kernel_rfl)
    (of_decide_eq_true (by kernel_rfl)) (by unfold Func.isWrapper; first | (rw [if_pos (by decide +kernel)]; kernel_rfl) | (rw [if_neg (by decide +kernel)]; exact ⟨rfl, rfl⟩))
    (fun os started H enc _ F => by rw [OpenClaim.pre_eq_preRow]; exact lifted os started H enc F)

/-- No parameter wants a stand-in; the program's own looks are off: what the card asks. -/
theorem plain (f : FuncId) (fn : Func) (hf : Tryz.pinned.checked.prog.funcNamed "stockyard/stockyardlaw06.ViewEntriesMean" = some f) (hfn : Tryz.pinned.checked.prog.funcs[f]? = some fn) :
    false = Tryz.pinned.checked.prog.looks [] ∧ ∀ (j : Nat) t, fn.params[j]? = some t → Tryz.pinned.checked.prog.wantsStandIn t = false := by
  obtain rfl : f = 4 := Option.some.inj ((show Tryz.prog.funcNamed "stockyard/stockyardlaw06.ViewEntriesMean" = some 4 by kernel_rfl).symm.trans hf) |>.symm
  obtain rfl : fn = Tryz.f4 := (Option.some.inj (Tryz.func4.symm.trans hfn)).symm
  refine ⟨by kernel_rfl, fun j t ht => ?_⟩
  rw [Tryz.params4] at ht
  have hm := Array.mem_of_getElem? ht
  simp only [List.mem_toArray, List.mem_cons, List.not_mem_nil, or_false] at hm
  rcases hm with rfl | rfl
  · exact (show Tryz.prog.wantsStandIn 22 = false by kernel_rfl)
  · exact (show Tryz.prog.wantsStandIn 9 = false by kernel_rfl)

/-- THE CARD of ViewEntriesMean. -/
theorem card : Rows.ViewEntriesMeanUptoCardSaid :=
  Claim7.holds_tied_plain_at .later [] _ _ _ _ said (fun _ h => by cases h) (by kernel_rfl) (fun _ h => by cases h) viewEntriesMeanUpto_row_tie rfl ⟨rfl, rfl⟩ (by kernel_rfl) rfl plain (by kernel_rfl)
end Go.Proofs.YtglnkpgfdjnhnaaGreatDoor.viewEntriesMeanUpto
