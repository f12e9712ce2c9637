/- Walks: the law's small. -/
import Derived.Test.YtdndfkoklhfffaaGreatDoorWalkR
set_option linter.unusedVariables false
set_option linter.unusedSimpArgs false
namespace Go.Proofs.YtdndfkoklhfffaaGreatDoor
open Go Go.RowKit Sy

/-- What the law's look at sizes gives. -/
structure SmallB (b : Pat) (hs : List Pat) : Prop where
  holes : hs.length ≤ 70
  base : b.parts.length ≤ 20
  strs : ∀ x ∈ b.parts, x.length ≤ 60
  parts : ∀ h ∈ hs, h.parts.length ≤ 400 ∧ ∀ x ∈ h.parts, x.length ≤ 60

/-- How the law's look at sizes ends. -/
def SmallEnd (b : Pat) (hs : List Pat) (e : Ending) : Prop := ∃ r, e = .returned (.bool r) ∧ (r = true → SmallB b hs)

/-- The parts of the base and of the first k holes. -/
def tot (b : Pat) (hs : List Pat) (k : Nat) : Nat := b.parts.length + ((hs.take k).map (·.parts.length)).sum

theorem tot_succ {b : Pat} {hs : List Pat} {k : Nat} {p : Pat} (h : hs[k]? = some p) : tot b hs (k + 1) = tot b hs k + p.parts.length := by
  obtain ⟨hlt, he⟩ := List.getElem?_eq_some_iff.1 h
  simp only [tot, List.take_succ_eq_append_getElem hlt, List.map_append, List.sum_append, he, List.map_cons, List.map_nil, List.sum_cons, List.sum_nil]
  omega
theorem le_tot (b : Pat) {hs : List Pat} {h : Pat} (hm : h ∈ hs) : h.parts.length ≤ tot b hs hs.length := by
  rw [tot, List.take_length]
  have : ∀ l : List Pat, h ∈ l → h.parts.length ≤ (l.map (·.parts.length)).sum := by
    intro l
    induction l with
    | nil => intro hm; cases hm
    | cons a l ih =>
      intro hm
      rcases List.mem_cons.1 hm with rfl | h1
      · simp
      · have := ih h1
        simp only [List.map_cons, List.sum_cons]
        omega
  have := this hs hm
  omega
theorem tot_le {b : Pat} {hs : List Pat} (hb : b.parts.length ≤ 140737488355328) (hp : ∀ (j : Nat) p, hs[j]? = some p → p.parts.length ≤ 140737488355328) : ∀ k, tot b hs k ≤ (k + 1) * 140737488355328
  | 0 => by
    have h0 : tot b hs 0 = b.parts.length := by simp [tot]
    rw [h0]
    omega
  | k + 1 => by
    have ih := tot_le hb hp k
    rcases e : hs[k]? with _ | p
    · have h1 : hs.length ≤ k := List.getElem?_eq_none_iff.1 e
      have h2 : tot b hs (k + 1) = tot b hs k := by
        rw [tot, tot, List.take_of_length_le h1, List.take_of_length_le (Nat.le_succ_of_le h1)]
      omega
    · have h2 := tot_succ (b := b) e
      have h3 := hp k p e
      omega

set_option maxRecDepth 100000 in
set_option maxHeartbeats 4000000 in
theorem small_c (b : Pat) (hs : List Pat) (A : Option Addr) (c : Nat) (HA : Option Addr) (hc : Nat) (w : World) (hb : StrsG w A b.parts) (hh : PatsG w HA hs) (hbc : b.parts.length ≤ c) (hcc : c ≤ 9223372036854775807) (hhc : hs.length ≤ hc) (hhcc : hc ≤ 9223372036854775807) :
    Calls Tryz.prog 8 #[.agg #[.slice A b.parts.length c, .bool b.rest, .slice HA hs.length hc]] w fun e w' => SmallEnd b hs e ∧ Calm w w' := by
  obtain ⟨hn, hhn⟩ : ∃ hn, hs.length = hn := ⟨_, rfl⟩
  obtain ⟨bn, hbn⟩ : ∃ bn, b.parts.length = bn := ⟨_, rfl⟩
  rw [hhn] at hhc ⊢
  rw [hbn] at hbc ⊢
  have Hhn := Lib.hid hhn
  have Hbn := Lib.hid hbn
  have HB := Lib.hid hb
  have HH := Lib.hid hh
  have HTL : Hid (∀ k, tot b hs k ≤ (k + 1) * 140737488355328) := tot_le hb.len fun j p hp => by
    obtain ⟨hlt, he⟩ := List.getElem?_eq_some_iff.1 hp
    obtain ⟨_, _, q, _, _, _, _, hq, _, _, _, _, h5⟩ := hh.get hlt
    rw [hp] at hq
    cases hq
    exact h5.len
  clear hhn hbn hb hh
  go_enter Tryz.func8, Tryz.ntmps8
  go_wp2_with fail
  obtain ⟨w1, hw1⟩ : ∃ w1, w1 = w.alloc (.cells #[.slice A bn c, .bool b.rest, .slice HA hn hc] 27) := ⟨_, rfl⟩
  have hc1 : Calm w w1 := by rw [hw1]; exact (Calm.refl w).alloc _
  have hs1 : w.heap.size < w1.heap.size := by rw [hw1]; simp
  have k0 : w1.cell? ⟨w.heap.size, 0, none⟩ = some (.slice A bn c) := by rw [hw1]; simp
  have k2 : w1.cell? ⟨w.heap.size, 2, none⟩ = some (.slice HA hn hc) := by rw [hw1]; simp
  rw [← hw1]
  have HC := Lib.hid hc1
  have HK := Lib.hid (And.intro hs1 (And.intro k0 k2))
  clear hw1 hc1 hs1 k0 k2
  go_loopw [3, 17] (fun v q wr => ∃ (k : Nat) (z : Int), k ≤ hn ∧ q = .int .i64 k ∧ v = .int .i64 z ∧ Hid (Calm w1 wr) ∧ Hid (k ≤ 70 → z = tot b hs k) ∧ Hid (∀ j h, j < k → hs[j]? = some h → ∀ x ∈ h.parts, x.length ≤ 60)) (fun _ q _ => hn - (intOf q).toNat)
  case atStart => exact ⟨0, bn, Nat.zero_le _, rfl, rfl, Calm.refl _, fun _ => by simp [tot, Hbn.out], fun j h hj => absurd hj (Nat.not_lt_zero _)⟩
  case round =>
    obtain ⟨k, z, hk, rfl, rfl, HCk, HZ, HF⟩ := hrel
    by_cases hlt : k < hn
    · have hc1k := HC.out.trans HCk.out
      obtain ⟨bb, o, p, Ak, ck, rfl, hbb, hpk, h1, h2, h3, h4, h5⟩ := (HH.out.calm hc1k).get (k := k) (by rw [Hhn.out]; exact hlt)
      have HPk := Lib.hid hpk
      have H5 := Lib.hid h5
      obtain ⟨pn, hpn⟩ : ∃ pn, p.parts.length = pn := ⟨_, rfl⟩
      rw [hpn] at h1 h3
      have Hpn := Lib.hid hpn
      have hpl : pn ≤ 140737488355328 := by rw [← hpn]; exact H5.out.len
      clear hpk h5 hpn
      go_wp2_with fail
      go_loopw [29] (fun q wq => ∃ j : Nat, j ≤ pn ∧ q = .int .i64 j ∧ Hid (Calm wr wq) ∧ Hid (∀ i x, i < j → p.parts[i]? = some x → x.length ≤ 60)) (fun q _ => pn - (intOf q).toNat)
      case atStart => exact ⟨0, Nat.zero_le _, rfl, (Calm.refl _).alloc _, fun i x hi => absurd hi (Nat.not_lt_zero _)⟩
      case round =>
        obtain ⟨j, hj, rfl, HCj, HFj⟩ := hrel
        by_cases hjl : j < pn
        · obtain ⟨b2, o2, l, rfl, hb2, hl, hll, hcl⟩ := (H5.out.calm HCj.out).get (k := j) (by rw [Hpn.out]; exact hjl)
          have HL := Lib.hid hl
          clear hl
          by_cases h60 : l.length ≤ 60
          · go_wp2
            go_roundw
            case rel =>
              refine ⟨j + 1, by omega, by go_num, HCj.out, fun i x hi hx => ?_⟩
              by_cases e : i = j
              · subst e
                rw [HL.out] at hx
                cases hx
                exact h60
              · exact HFj.out i x (by omega) hx
            case measure => simp [intOf]; omega
          · go_wp2
            go_ret
            exact ⟨⟨false, rfl, fun h => by cases h⟩, hc1k.trans HCj.out⟩
        · have hjn : j = pn := by omega
          subst hjn
          go_wp2
          go_roundw
          case rel =>
            refine ⟨k + 1, _, by omega, by go_num, rfl, HCk.out.trans HCj.out, ?_, fun i h hi hx => ?_⟩
            · intro h70
              have h5 := HZ.out (by omega)
              have h6 := HTL.out k
              have h7 : tot b hs (k + 1) = tot b hs k + j := by rw [tot_succ HPk.out, Hpn.out]
              rw [h5]
              have h8 : wrap64 ((tot b hs k : Int) + (j : Int)) = (tot b hs k : Int) + (j : Int) := by unfold wrap64; omega
              rw [h7]
              push_cast
              exact h8
            · by_cases e : i = k
              · subst e
                rw [HPk.out] at hx
                cases hx
                intro x hm
                obtain ⟨i2, hi2, he2⟩ := List.mem_iff_getElem.1 hm
                exact HFj.out i2 x (by rw [← Hpn.out]; exact hi2) (by rw [List.getElem?_eq_getElem hi2, he2])
              · exact HF.out i h (by omega) hx
          case measure => simp [intOf]; omega
    · have hkn : k = hn := by omega
      subst hkn
      have l0 := HCk.out.at_ HK.out.2.1 HK.out.1
      have l2 := HCk.out.at_ HK.out.2.2 HK.out.1
      have HBk := Lib.hid (HB.out.calm (HC.out.trans HCk.out))
      go_wp2_with fail
      go_loopw [42] (fun q wq => ∃ j : Nat, j ≤ bn ∧ q = .int .i64 j ∧ Hid (Calm wr wq) ∧ Hid (∀ i x, i < j → b.parts[i]? = some x → x.length ≤ 60)) (fun q _ => bn - (intOf q).toNat)
      case atStart => exact ⟨0, Nat.zero_le _, rfl, Calm.refl _, fun i x hi => absurd hi (Nat.not_lt_zero _)⟩
      case round =>
        obtain ⟨j, hj, rfl, HCj, HFj⟩ := hrel
        by_cases hjl : j < bn
        · obtain ⟨b2, o2, l, rfl, hb2, hl, hll, hcl⟩ := (HBk.out.calm HCj.out).get (k := j) (by rw [Hbn.out]; exact hjl)
          have HL := Lib.hid hl
          clear hl l0 l2
          by_cases h60 : l.length ≤ 60
          · go_wp2
            go_roundw
            case rel =>
              refine ⟨j + 1, by omega, by go_num, HCj.out, fun i x hi hx => ?_⟩
              by_cases e : i = j
              · subst e
                rw [HL.out] at hx
                cases hx
                exact h60
              · exact HFj.out i x (by omega) hx
            case measure => simp [intOf]; omega
          · go_wp2
            go_ret
            exact ⟨⟨false, rfl, fun h => by cases h⟩, HC.out.trans (HCk.out.trans HCj.out)⟩
        · have hjn : j = bn := by omega
          subst hjn
          clear l0 l2
          have l0 := (HCk.out.trans HCj.out).at_ HK.out.2.1 HK.out.1
          have l2 := (HCk.out.trans HCj.out).at_ HK.out.2.2 HK.out.1
          by_cases hz : z ≤ 400
          · by_cases h70 : k ≤ 70
            · by_cases h20 : j ≤ 20
              · go_wp2
                all_goals go_ret
                refine ⟨⟨_, rfl, fun _ => ⟨by rw [Hhn.out]; exact h70, by rw [Hbn.out]; exact h20, fun x hm => ?_, fun h hm => ?_⟩⟩, HC.out.trans (HCk.out.trans HCj.out)⟩
                · obtain ⟨i2, hi2, he2⟩ := List.mem_iff_getElem.1 hm
                  exact HFj.out i2 x (by rw [← Hbn.out]; exact hi2) (by rw [List.getElem?_eq_getElem hi2, he2])
                · obtain ⟨i2, hi2, he2⟩ := List.mem_iff_getElem.1 hm
                  refine ⟨?_, fun x hx => HF.out i2 h (by rw [← Hhn.out]; exact hi2) (by rw [List.getElem?_eq_getElem hi2, he2]) x hx⟩
                  have h5 := HZ.out h70
                  have h6 := le_tot b hm
                  rw [Hhn.out] at h6
                  omega
              · go_wp2
                all_goals go_ret
                exact ⟨⟨_, rfl, fun h => by first | (cases h; done) | (revert h; simp; done) | (revert h; simp; omega)⟩, HC.out.trans (HCk.out.trans HCj.out)⟩
            · go_wp2
              all_goals go_ret
              exact ⟨⟨_, rfl, fun h => by first | (cases h; done) | (revert h; simp; done) | (revert h; simp; omega)⟩, HC.out.trans (HCk.out.trans HCj.out)⟩
          · go_wp2
            all_goals go_ret
            exact ⟨⟨_, rfl, fun h => by first | (cases h; done) | (revert h; simp; done) | (revert h; simp; omega)⟩, HC.out.trans (HCk.out.trans HCj.out)⟩
end Go.Proofs.YtdndfkoklhfffaaGreatDoor
set_option linter.unusedVariables false
set_option linter.unusedSimpArgs false
namespace Go.Proofs.YtdndfkoklhfffaaGreatDoor
open Go Go.RowKit Sy

def exB : Pat := ⟨[[97]], true⟩
def exH : Pat := ⟨[[97], [42]], false⟩
theorem ex_len : leastLen exB [exH] = 3 := by decide +kernel
theorem ex_str : leastStr exB [exH] 3 = [47, 47, 97, 47, 43, 47, 43] := by decide +kernel
theorem ex_val : leastVal exB [exH] = .tuple #[.string (bs [47, 47, 97, 47, 43, 47, 43]), .bool true, .int .i64 0] := by
  rw [leastVal, ex_len, ex_str]
  rfl
theorem ex_err : regErr exB [exH] = 0 := by decide +kernel

def exW (w : World) : World :=
  ((((w.alloc (Obj.cells #[Value.string ⟨#[97]⟩] 9)).alloc (Obj.cells #[Value.slice (some { block := w.heap.size, off := 0 }) 1 1, Value.bool true] 24)).alloc (Obj.cells #[Value.string ⟨#[97]⟩, Value.string ⟨#[42]⟩] 9)).alloc
    (Obj.cells #[Value.slice (some { block := w.heap.size + 1 + 1, off := 0 }) 2 2, Value.bool false] 24))
theorem ex_calm (w : World) : Calm w (exW w) := ((((Calm.refl w).alloc _).alloc _).alloc _).alloc _
theorem new_at {v w' : World} {cs : Array Value} {t : TypeId} {n k : Nat} {x : Value} (hc : Calm (v.alloc (.cells cs t)) w') (hs : v.heap.size = n) (h : cs[k]? = some x) : w'.cell? ⟨n, k, none⟩ = some x := by
  subst hs
  refine hc.at_ ?_ (by simp)
  rw [cell_of_row _ v.heap.size k _ _ _ (heap_alloc_new v _)]
  exact h
theorem ex_size (w : World) : (exW w).heap.size = w.heap.size + 4 := by simp [exW]
theorem ex_base (w : World) : StrsR (exW w) (some ⟨w.heap.size, 0, none⟩) exB.parts := by
  refine ⟨by decide, by decide, fun _ => ⟨_, 0, rfl, by rw [ex_size]; omega, fun k l hl => ?_⟩⟩
  rw [Nat.zero_add]
  refine new_at (v := w) ((((Calm.refl _).alloc _).alloc _).alloc _) rfl ?_
  match k, hl with
  | 0, hl => cases hl; rfl
theorem ex_hole (w : World) : StrsR (exW w) (some ⟨w.heap.size + 1 + 1, 0, none⟩) exH.parts := by
  refine ⟨by decide, by decide, fun _ => ⟨_, 0, rfl, by rw [ex_size]; omega, fun k l hl => ?_⟩⟩
  rw [Nat.zero_add]
  refine new_at (v := (w.alloc _).alloc _) ((Calm.refl _).alloc _) (by simp) ?_
  match k, hl with
  | 0, hl => cases hl; rfl
  | 1, hl => cases hl; rfl
theorem ex_holes (w : World) : PatsR (exW w) (some ⟨w.heap.size + 1 + 1 + 1, 0, none⟩) [exH] := by
  refine ⟨by decide, fun _ => ⟨_, 0, rfl, by rw [ex_size]; omega, fun k p hp => ?_⟩⟩
  match k, hp with
  | 0, hp => cases hp; exact ⟨some ⟨w.heap.size + 1 + 1, 0, none⟩, 2, new_at (v := ((w.alloc _).alloc _).alloc _) (Calm.refl _) (by simp) rfl, new_at (v := ((w.alloc _).alloc _).alloc _) (Calm.refl _) (by simp) rfl, by decide, by decide, ex_hole w⟩
theorem ex_least (w : World) (ht : Tab w) : Calls Tryz.prog 19 #[.agg #[.slice (some ⟨w.heap.size, 0, none⟩) 1 1, .bool true, .slice (some ⟨w.heap.size + 1 + 1 + 1, 0, none⟩) 1 1]] (exW w) fun e w' => e = .returned (.tuple #[.string (bs [47, 47, 97, 47, 43, 47, 43]), .bool true, .int .i64 0]) ∧ Calm (exW w) w' := by
  have := least_c exB [exH] (some ⟨w.heap.size, 0, none⟩) 1 (some ⟨w.heap.size + 1 + 1 + 1, 0, none⟩) 1 (exW w) (ex_base w) (by decide) (by decide) (ex_holes w) (ht.calm (ex_calm w)) ex_err (by decide)
  rw [ex_val] at this
  exact this

set_option maxRecDepth 100000 in
set_option maxHeartbeats 4000000 in
theorem awake_c (w : World) (ht : Tab w) : Calls Tryz.prog 9 #[] w fun e w' => e = .returned (.bool true) ∧ Calm w w' := by
  have HT := Lib.hid ht
  clear ht
  go_enter Tryz.func9, Tryz.ntmps9
  go_wp2_with fail
  refine ((ex_least w HT.out).mono ?_)
  rintro e w2 ⟨rfl, hc2⟩
  go_wp2
  all_goals go_ret
  all_goals exact ⟨rfl, (((((Calm.refl w).alloc _).alloc _).alloc _).alloc _).trans hc2⟩
end Go.Proofs.YtdndfkoklhfffaaGreatDoor
