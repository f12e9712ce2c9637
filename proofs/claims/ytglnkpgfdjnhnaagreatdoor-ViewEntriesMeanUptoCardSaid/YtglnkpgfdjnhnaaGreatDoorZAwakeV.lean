/- Walks: awake of the laws of views. -/
import Derived.Deep.RegionLaw
import Derived.Test.YtglnkpgfdjnhnaaGreatDoorZViewW
import Derived.Test.YtglnkpgfdjnhnaaGreatDoorZViewLaw
import Derived.Test.YtglnkpgfdjnhnaaGreatDoorZStepApp
set_option linter.unusedVariables false
set_option linter.unusedSimpArgs false
namespace Go.Proofs.YtglnkpgfdjnhnaaGreatDoor
open Go Go.RowKit Sy

def vfV (v : List Rule) (s : Str) : Value := .tuple #[.string (bs ((vfwd v s).getD [])), .bool (vfwd v s).isSome]
def noV : Value := .tuple #[.string (bs []), .bool false]
theorem vfV_no {v : List Rule} {s : Str} (h : vfwd v s = none) : vfV v s = noV := by
  rw [vfV, h]
  rfl
theorem vfV_some {v : List Rule} {s t : Str} (h : vfwd v s = some t) : vfV v s = .tuple #[.string (bs t), .bool true] := by
  rw [vfV, h]
  rfl
theorem fwdV_none {r : Rule} {s : Str} (h : fwd r s = none) : fwdV r s = noV := by
  rw [fwdV, h]
  rfl
theorem fwdV_some {r : Rule} {s t : Str} (h : fwd r s = some t) : fwdV r s = .tuple #[.string (bs t), .bool true] := by
  rw [fwdV, h]
  rfl
theorem fwd_v (r : Rule) (a : Pl) (s : Str) (u : Value) (w : World) (hr : RuleU w a r) (hsm : SmallV r) (hs : s.length ≤ 10000) (hM : MaxL w) (h : fwdV r s = u) :
    Calls Tryz.prog 29 #[.agg #[.bool r.excl, .slice a.AL r.left.parts.length a.cl, .bool r.left.rest, .slice a.AR r.right.parts.length a.cr, .bool r.right.rest], .string (bs s)] w fun e w' => e = .returned u ∧ Calm w w' := h ▸ fwd_c r a s w hr hsm hs hM
theorem decL_or (v : List Rule) (s : Str) : decL v s = -1 ∨ ∃ (k : Nat) (r : Rule), decL v s = k ∧ v[k]? = some r ∧ k < v.length := by
  rcases lastIx_cases (fun r => matchS r.left s) v with ⟨h1, _⟩ | ⟨k, a, h1, h2, _, _⟩
  · exact .inl h1
  · exact .inr ⟨k, a, h1, h2, (List.getElem?_eq_some_iff.1 h2).1⟩
theorem vfwd_err {v : List Rule} {s : Str} (h : viewErr v ≠ 0) : vfwd v s = none := by rw [vfwd, if_neg h]
theorem vfwd_far {v : List Rule} {s : Str} (h : decL v s = -1) : vfwd v s = none := by
  unfold vfwd
  split
  · rw [if_neg (by omega)]
  · rfl
theorem vfwd_at {v : List Rule} {s : Str} {k : Nat} {r : Rule} (h0 : viewErr v = 0) (h : decL v s = k) (hr : v[k]? = some r) : vfwd v s = if r.excl then none else (match fwd r s with
      | some t => if (k : Int) < decR v t then none else some t
      | none => none) := by
  rw [vfwd, if_pos h0, if_pos (by omega), h, Int.toNat_natCast, hr]
  rfl

set_option maxHeartbeats 4000000 in
theorem vfwd_c (v : List Rule) (s : Str) (A : Option Addr) (n c : Nat) (w : World) (hs : s.length ≤ 10000) (hM : MaxL w) (hv : RulesU w A v) (hsm : ∀ r ∈ v, SmallV r) (hn : v.length = n)
    (hT : ∀ (k : Nat) r t, decL v s = k → v[k]? = some r → fwd r s = some t → t.length ≤ 10000) :
    Calls Tryz.prog 11 #[.slice A n c, .string (bs s)] w fun e w' => e = .returned (vfV v s) ∧ Calm w w' := by
  have hlen := hv.len
  rw [hn] at hlen
  by_cases h0 : viewErr v = 0
  · have hvd := valid_c v true A n c w hv hsm hn (by simpa using h0)
    have KL : Hid (∀ W x, Calm w W → decL v s = x → Calls Tryz.prog 27 #[.slice A n c, .func (.func 54) #[] #[.pointer (some ⟨W.heap.size, 0, none⟩)]] (W.alloc (.cells #[.string (bs s)] 9)) fun e w' => e = .returned (.int .i64 x) ∧ Calm W w') := fun W x hW hx =>
      ml_last s v x A n c W hs (hM.calm hW) (hv.calm hW) hsm hn hx
    have KM := fun (W : World) => ml_c s W
    rcases decL_or v s with hd | ⟨k, r, hd, hr, hkn⟩
    · have hE := Lib.hid (vfV_no (vfwd_far hd))
      have K1 : Hid (∀ W, Calm w W → Calls Tryz.prog 27 #[.slice A n c, .func (.func 54) #[] #[.pointer (some ⟨W.heap.size, 0, none⟩)]] (W.alloc (.cells #[.string (bs s)] 9)) fun e w' => e = .returned (.int .i64 (-1)) ∧ Calm W w') := fun W hW => KL.out W (-1) hW hd
      clear hv hsm hM hT hn h0 hd KL
      go_enter Tryz.func11, Tryz.ntmps11
      go_wp2_with (first
        | (go_at_call 26; refine hvd.mono ?_; rintro e w2 ⟨rfl, hc2⟩)
        | (go_at_call 28; refine (KM _).mono ?_; rintro e w3 ⟨rfl, rfl⟩)
        | (go_at_call 27; refine (K1.out w2 hc2).mono ?_; rintro e w3 ⟨rfl, hc3⟩))
      go_ret2
      exact ⟨by rw [hE.out]; rfl, hc2.trans hc3⟩
    · have K1 : Hid (∀ W, Calm w W → Calls Tryz.prog 27 #[.slice A n c, .func (.func 54) #[] #[.pointer (some ⟨W.heap.size, 0, none⟩)]] (W.alloc (.cells #[.string (bs s)] 9)) fun e w' => e = .returned (.int .i64 (k : Nat)) ∧ Calm W w') := fun W hW => KL.out W k hW hd
      obtain ⟨b, o, r', a, rfl, hb, hr', hat, hru⟩ := hv.get (k := k) hkn
      obtain rfl : r = r' := by rw [hr] at hr'; exact Option.some.inj hr'
      rw [hn] at hkn
      have hat' := vfwd_at h0 hd hr
      have hsr := hsm r (List.mem_of_getElem? hr)
      have hT' := hT k r
      have HAt := Lib.hid (And.intro hb hat)
      have HU := Lib.hid hru
      have HN := Lib.hid hn
      have HV := Lib.hid hv
      have HSm := Lib.hid hsm
      have HM := Lib.hid hM
      have hd0 : ((k : Int) < 0) = False := by simp
      rcases hx : r.excl with _ | _
      · rcases hf : fwd r s with _ | t
        · rw [hx, hf] at hat'
          have hE := Lib.hid (vfV_no (by simpa using hat'))
          have KF : Hid (∀ W, Calm w W → Calls Tryz.prog 29 #[.agg #[.bool false, .slice a.AL r.left.parts.length a.cl, .bool r.left.rest, .slice a.AR r.right.parts.length a.cr, .bool r.right.rest], .string (bs s)] W fun e w' => e = .returned (.tuple #[.string (bs []), .bool false]) ∧ Calm W w') := fun W hW => by
            have := fwd_v r a s _ W (HU.out.calm hW) hsr hs (HM.out.calm hW) (fwdV_none hf)
            rw [hx] at this
            exact this
          clear hv hsm hM hT hT' hn h0 hd hr hr' hat' hat hru hsr hf KL
          go_enter Tryz.func11, Tryz.ntmps11
          go_wp2_with (first
            | (go_at_call 26; refine hvd.mono ?_; rintro e w2 ⟨rfl, hc2⟩)
            | (go_at_call 28; refine (KM _).mono ?_; rintro e w3 ⟨rfl, rfl⟩)
            | (go_at_call 27; refine (K1.out w2 hc2).mono ?_; rintro e w3 ⟨rfl, hc3⟩; have d := HAt.out.2.calm (hc2.trans hc3) HAt.out.1; have d0 := d.c0; have d1 := d.c1; have d2 := d.c2; have d3 := d.c3; have d4 := d.c4; rw [hx] at d0)
            | (go_at_call 29; refine (KF.out w3 (hc2.trans hc3)).mono ?_; rintro e w4 ⟨rfl, hc4⟩))
          go_ret2
          exact ⟨by rw [hE.out]; rfl, hc2.trans (hc3.trans hc4)⟩
        · rw [hx, hf] at hat'
          have htl := hT' t hd hr hf
          have KF : Hid (∀ W, Calm w W → Calls Tryz.prog 29 #[.agg #[.bool false, .slice a.AL r.left.parts.length a.cl, .bool r.left.rest, .slice a.AR r.right.parts.length a.cr, .bool r.right.rest], .string (bs s)] W fun e w' => e = .returned (.tuple #[.string (bs t), .bool true]) ∧ Calm W w') := fun W hW => by
            have := fwd_v r a s _ W (HU.out.calm hW) hsr hs (HM.out.calm hW) (fwdV_some hf)
            rw [hx] at this
            exact this
          obtain ⟨y, hy⟩ : ∃ y, decR v t = y := ⟨_, rfl⟩
          have K2 : Hid (∀ W, Calm w W → Calls Tryz.prog 27 #[.slice (some ⟨b, o, none⟩) n c, .func (.func 57) #[] #[.pointer (some ⟨W.heap.size, 0, none⟩)]] (W.alloc (.cells #[.string (bs t)] 9)) fun e w' => e = .returned (.int .i64 y) ∧ Calm W w') := fun W hW =>
            mr_last t v y (some ⟨b, o, none⟩) n c W htl (HM.out.calm hW) (HV.out.calm hW) HSm.out HN.out hy
          have KMr := fun (W : World) => mr_c t W
          have hyb := decR_ge v t
          rw [hy, hn] at hyb
          simp only [Bool.false_eq_true, if_false] at hat'
          rw [hy] at hat'
          by_cases hky : (k : Int) < y
          · rw [if_pos hky] at hat'
            have hE := Lib.hid (vfV_no hat')
            clear hv hsm hM hT hT' hn h0 hd hr hr' hat' hat hru hsr hf KL hy htl
            go_enter Tryz.func11, Tryz.ntmps11
            go_wp2_with (first
              | (go_at_call 26; refine hvd.mono ?_; rintro e w2 ⟨rfl, hc2⟩)
              | (go_at_call 28; refine (KM _).mono ?_; rintro e w3 ⟨rfl, rfl⟩)
              | (go_at_call 27; refine (K1.out w2 hc2).mono ?_; rintro e w3 ⟨rfl, hc3⟩; have d := HAt.out.2.calm (hc2.trans hc3) HAt.out.1; have d0 := d.c0; have d1 := d.c1; have d2 := d.c2; have d3 := d.c3; have d4 := d.c4; rw [hx] at d0)
              | (go_at_call 29; refine (KF.out w3 (hc2.trans hc3)).mono ?_; rintro e w4 ⟨rfl, hc4⟩))
            clear K1
            go_wp2_with (first
              | (go_at_call 30; refine (KMr _).mono ?_; rintro e w5 ⟨rfl, rfl⟩)
              | (go_at_call 27; refine (K2.out w4 (hc2.trans (hc3.trans hc4))).mono ?_; rintro e w5 ⟨rfl, hc5⟩))
            go_ret2
            exact ⟨by rw [hE.out]; rfl, hc2.trans (hc3.trans (hc4.trans hc5))⟩
          · rw [if_neg hky] at hat'
            have hE := Lib.hid (vfV_some hat')
            clear hv hsm hM hT hT' hn h0 hd hr hr' hat' hat hru hsr hf KL hy htl
            go_enter Tryz.func11, Tryz.ntmps11
            go_wp2_with (first
              | (go_at_call 26; refine hvd.mono ?_; rintro e w2 ⟨rfl, hc2⟩)
              | (go_at_call 28; refine (KM _).mono ?_; rintro e w3 ⟨rfl, rfl⟩)
              | (go_at_call 27; refine (K1.out w2 hc2).mono ?_; rintro e w3 ⟨rfl, hc3⟩; have d := HAt.out.2.calm (hc2.trans hc3) HAt.out.1; have d0 := d.c0; have d1 := d.c1; have d2 := d.c2; have d3 := d.c3; have d4 := d.c4; rw [hx] at d0)
              | (go_at_call 29; refine (KF.out w3 (hc2.trans hc3)).mono ?_; rintro e w4 ⟨rfl, hc4⟩))
            clear K1
            go_wp2_with (first
              | (go_at_call 30; refine (KMr _).mono ?_; rintro e w5 ⟨rfl, rfl⟩)
              | (go_at_call 27; refine (K2.out w4 (hc2.trans (hc3.trans hc4))).mono ?_; rintro e w5 ⟨rfl, hc5⟩))
            go_ret2
            exact ⟨by rw [hE.out]; rfl, hc2.trans (hc3.trans (hc4.trans hc5))⟩
      · rw [hx] at hat'
        have hE := Lib.hid (vfV_no (by simpa using hat'))
        clear hv hsm hM hT hT' hn h0 hd hr hr' hat' hat hru hsr KL
        go_enter Tryz.func11, Tryz.ntmps11
        go_wp2_with (first
          | (go_at_call 26; refine hvd.mono ?_; rintro e w2 ⟨rfl, hc2⟩)
          | (go_at_call 28; refine (KM _).mono ?_; rintro e w3 ⟨rfl, rfl⟩)
          | (go_at_call 27; refine (K1.out w2 hc2).mono ?_; rintro e w3 ⟨rfl, hc3⟩; have d := HAt.out.2.calm (hc2.trans hc3) HAt.out.1; have d0 := d.c0; rw [hx] at d0))
        go_ret2
        exact ⟨by rw [hE.out]; rfl, hc2.trans hc3⟩
  · have hvd := valid_c v false A n c w hv hsm hn (by simpa using h0)
    have hE := Lib.hid (vfV_no (vfwd_err (s := s) h0))
    clear hv hsm hM hT hn h0
    go_enter Tryz.func11, Tryz.ntmps11
    go_wp2_with (go_at_call 26; refine hvd.mono ?_; rintro e w2 ⟨rfl, hc2⟩)
    go_ret2
    exact ⟨by rw [hE.out]; rfl, hc2⟩

set_option maxHeartbeats 2000000 in
theorem vdec_c (v : List Rule) (s : Str) (x : Int) (A : Option Addr) (n c : Nat) (w : World) (hs : s.length ≤ 10000) (hM : MaxL w) (hv : RulesU w A v) (hsm : ∀ r ∈ v, SmallV r) (hn : v.length = n) (hx : decides v s = x) :
    Calls Tryz.prog 12 #[.slice A n c, .string (bs s)] w fun e w' => e = .returned (.int .i64 x) ∧ Calm w w' := by
  by_cases h0 : viewErr v = 0
  · have hvd := valid_c v true A n c w hv hsm hn (by simpa using h0)
    have hd : decL v s = x := by rw [← hx, decides, if_pos h0]
    have K1 : Hid (∀ W, Calm w W → Calls Tryz.prog 27 #[.slice A n c, .func (.func 54) #[] #[.pointer (some ⟨W.heap.size, 0, none⟩)]] (W.alloc (.cells #[.string (bs s)] 9)) fun e w' => e = .returned (.int .i64 x) ∧ Calm W w') := fun W hW =>
      ml_last s v x A n c W hs (hM.calm hW) (hv.calm hW) hsm hn hd
    have KM := fun (W : World) => ml_c s W
    clear hv hsm hM hn h0 hd hx
    go_enter Tryz.func12, Tryz.ntmps12
    go_wp2_with (first
      | (go_at_call 26; refine hvd.mono ?_; rintro e w2 ⟨rfl, hc2⟩)
      | (go_at_call 28; refine (KM _).mono ?_; rintro e w3 ⟨rfl, rfl⟩)
      | (go_at_call 27; refine (K1.out w2 hc2).mono ?_; rintro e w3 ⟨rfl, hc3⟩))
    go_ret
    exact ⟨rfl, hc2.trans hc3⟩
  · have hvd := valid_c v false A n c w hv hsm hn (by simpa using h0)
    obtain rfl : -1 = x := by rw [← hx, decides, if_neg h0]
    clear hv hsm hM hn h0 hx
    go_enter Tryz.func12, Tryz.ntmps12
    go_wp2_with (go_at_call 26; refine hvd.mono ?_; rintro e w2 ⟨rfl, hc2⟩)
    go_ret
    exact ⟨rfl, hc2⟩
end Go.Proofs.YtglnkpgfdjnhnaaGreatDoor
set_option linter.unusedVariables false
set_option linter.unusedSimpArgs false
namespace Go.Proofs.YtglnkpgfdjnhnaaGreatDoor
open Go Go.RowKit Sy

def partsOf (r : Rule) : List Str := r.left.parts ++ r.right.parts
def sumTo (v : List Rule) (k : Nat) : Nat := ((v.take k).map fun r => (partsOf r).length).sum
def smallW (v : List Rule) : Bool := (v.all fun r => (partsOf r).all fun x => decide (x.length ≤ 60)) && decide (v.length ≤ 20) && decide (sumTo v v.length ≤ 200)
theorem sumTo_succ {v : List Rule} {k : Nat} {r : Rule} (h : v[k]? = some r) : sumTo v (k + 1) = sumTo v k + (r.left.parts.length + r.right.parts.length) := by
  obtain ⟨hlt, rfl⟩ := List.getElem?_eq_some_iff.1 h
  rw [sumTo, List.take_succ_eq_append_getElem hlt, List.map_append, List.sum_append, sumTo]
  simp [partsOf]
theorem le_sum_mem : ∀ {l : List Nat} {x : Nat}, x ∈ l → x ≤ l.sum
  | y :: l, x, h => by
    rw [List.sum_cons]
    rcases List.mem_cons.1 h with rfl | h
    · omega
    · have := le_sum_mem h
      omega
theorem sumTo_le (v : List Rule) {k : Nat} {r : Rule} (h : v[k]? = some r) : (partsOf r).length ≤ sumTo v v.length := by
  rw [sumTo, List.take_length]
  exact le_sum_mem (List.mem_map.2 ⟨r, List.mem_of_getElem? h, rfl⟩)
theorem smallW_small {v : List Rule} (h : smallW v = true) : (∀ r ∈ v, SmallV r) ∧ v.length ≤ 20 := by
  rw [smallW, Bool.and_eq_true, Bool.and_eq_true, decide_eq_true_eq, decide_eq_true_eq] at h
  refine ⟨fun r hr => ?_, h.1.2⟩
  obtain ⟨j, hj, e⟩ := List.mem_iff_getElem.1 hr
  have h1 := sumTo_le v (List.getElem?_eq_getElem hj)
  rw [e] at h1
  have h2 := List.all_eq_true.1 (List.all_eq_true.1 h.1.1 r hr)
  have h3 : (partsOf r).length = r.left.parts.length + r.right.parts.length := by rw [partsOf, List.length_append]
  exact ⟨by omega, fun x hx => by simpa using h2 x (List.mem_append_left _ hx), by omega, fun x hx => by simpa using h2 x (List.mem_append_right _ hx)⟩

set_option maxHeartbeats 4000000 in
theorem smallv_c (v : List Rule) (y : Bool) (A : Option Addr) (n c : Nat) (w : World) (hv : RulesU w A v) (hn : v.length = n) (hy : smallW v = y) :
    Calls Tryz.prog 5 #[.slice A n c] w fun e w' => e = .returned (.bool y) ∧ Calm w w' := by
  have hlen := hv.len
  rw [hn] at hlen
  have HN := Lib.hid hn
  have HV := Lib.hid hv
  have HY := Lib.hid hy
  clear hn hv hy
  go_enter Tryz.func5, Tryz.ntmps5
  go_wp2_with fail
  go_loopw [3, 10] (fun u q wr => ∃ (k S : Nat), k ≤ n ∧ q = .int .i64 k ∧ u = .int .i64 S ∧ S ≤ k * 2097154 ∧ Hid (sumTo v k = S) ∧ Hid (∀ j r, j < k → v[j]? = some r → ∀ x ∈ partsOf r, x.length ≤ 60) ∧ Hid (Calm w wr)) (fun _ q _ => n - (intOf q).toNat)
  case atStart => exact ⟨0, 0, Nat.zero_le _, rfl, rfl, Nat.zero_le _, rfl, fun j r hj => absurd hj (Nat.not_lt_zero _), Calm.refl _⟩
  case round =>
    obtain ⟨k, S, hk, rfl, rfl, hS, HS, HG, HC⟩ := hrel
    by_cases hlt : k < n
    · obtain ⟨b, o, r, a, rfl, hb, hr, hat, hru⟩ := (HV.out.calm HC.out).get (k := k) (by rw [HN.out]; exact hlt)
      have hss := sumTo_succ hr
      rw [HS.out] at hss
      have hll := hru.lr.len
      have hrl := hru.rr.len
      have HR := Lib.hid hr
      have HSS := Lib.hid hss
      have c0 := hat.c0
      have c1 := hat.c1
      have c2 := hat.c2
      have c3 := hat.c3
      have c4 := hat.c4
      obtain ⟨nl, hnl⟩ : ∃ nl, r.left.parts.length = nl := ⟨_, rfl⟩
      obtain ⟨nr, hnr⟩ : ∃ nr, r.right.parts.length = nr := ⟨_, rfl⟩
      obtain ⟨lr, hlr⟩ : ∃ lr, r.left.rest = lr := ⟨_, rfl⟩
      obtain ⟨rr, hrr⟩ : ∃ rr, r.right.rest = rr := ⟨_, rfl⟩
      obtain ⟨ex, hex⟩ : ∃ ex, r.excl = ex := ⟨_, rfl⟩
      rw [hnl] at hll c1
      rw [hnr] at hrl c3
      rw [hlr] at c2
      rw [hrr] at c4
      rw [hex] at c0
      rw [hnl, hnr] at hss
      obtain ⟨wB, hwB⟩ : ∃ wB, wB = wr.alloc (.cells #[.bool ex, .slice a.AL nl a.cl, .bool lr, .slice a.AR nr a.cr, .bool rr] 38) := ⟨_, rfl⟩
      have hcB : Calm wr wB := by rw [hwB]; exact (Calm.refl wr).alloc _
      have hUB := hru.calm hcB
      have hzB : wr.heap.size < wB.heap.size := by rw [hwB]; simp
      have g1 : wB.cell? ⟨wr.heap.size, 1, none⟩ = some (.slice a.AL nl a.cl) := by rw [hwB]; simp
      have g3 : wB.cell? ⟨wr.heap.size, 3, none⟩ = some (.slice a.AR nr a.cr) := by rw [hwB]; simp
      have HB := Lib.hid hwB
      have HU := Lib.hid hUB
      have HCB := Lib.hid hcB
      have HNl := Lib.hid (And.intro hnl hnr)
      clear hr hss hat hru hnl hnr hlr hrr hex hwB hUB hcB
      have hlm : (r.left.parts ++ r.right.parts).length = nl + nr := by rw [List.length_append, HNl.out.1, HNl.out.2]
      go_wp2
      rw [← HB.out]
      go_region_law ((first
        | (refine step_app rfl (.const (.slice none 0 0)) (.tmp 27) rfl wB (.slice none 0 0) [] rfl (OwnS.nil (by first | exact Calm.refl _ | exact (Calm.refl _).drewN _)) a.AL nl a.cl (by simp [Act.eval, Act.put]) r.left.parts HNl.out.1 (HU.out.lr.calm (by first | exact Calm.refl _ | exact (Calm.refl _).drewN _)) (by simp; omega) ?_; intro v5 w5 hown5; have q3 := hown5.calm.at_ g3 hzB)
        | (refine step_app rfl (.tmp 28) (.tmp 31) rfl wB v5 r.left.parts (by simp [Act.eval, Act.put]) (hown5.to (by first | exact Calm.refl _ | exact (Calm.refl _).drewN _)) a.AR nr a.cr (by simp [Act.eval, Act.put]) r.right.parts HNl.out.2 (HU.out.rr.calm (hown5.calm.trans (by first | exact Calm.refl _ | exact (Calm.refl _).drewN _))) (by rw [HNl.out.1]; omega) ?_; intro v6 w6 hown6; obtain ⟨A9, c9, hv9, hle9, hat9⟩ := owns_strs hown6.own; rw [hlm] at hv9; subst hv9)))
      all_goals
        have hpl : Hid (∀ x ∈ r.left.parts ++ r.right.parts, x.length ≤ 1048576) := fun x hx => by
          rcases List.mem_append.1 hx with h | h
          · exact HU.out.lr.each x h
          · exact HU.out.rr.each x h
        have H6 := Lib.hid hown6
        have HAt := Lib.hid hat9
        clear hown6 hat9 hown5 q3 g1 g3 hle9
        simp only [List.getElem_toArray, List.getElem_cons_succ, List.getElem_cons_zero, Act.put, List.setIfInBounds_toArray, List.set_cons_succ, List.set_cons_zero]
        go_wp2
        go_loop [34] (fun q => ∃ i : Nat, i ≤ nl + nr ∧ q = .int .i64 i ∧ Hid (∀ j x, j < i → (r.left.parts ++ r.right.parts)[j]? = some x → x.length ≤ 60)) (fun q => (nl + nr) - (intOf q).toNat)
        case atStart => exact ⟨0, Nat.zero_le _, rfl, fun j x hj => absurd hj (Nat.not_lt_zero _)⟩
        case round =>
          obtain ⟨i, hi, rfl, HI⟩ := hrel
          by_cases hilt : i < nl + nr
          · obtain ⟨g, rfl, _, hg, hcells⟩ := HAt.out (by rw [hlm]; omega)
            obtain ⟨x, hx⟩ : ∃ x, (r.left.parts ++ r.right.parts)[i]? = some x := ⟨_, List.getElem?_eq_getElem (by rw [hlm]; exact hilt)⟩
            have hcx := hcells i x hx
            have hxl := hpl.out x (List.mem_of_getElem? hx)
            have HX := Lib.hid hx
            clear hcells hx
            have hsz := bs_size x
            by_cases h60 : x.length ≤ 60
            · go_wp2
              go_round
              case rel =>
                refine ⟨i + 1, by omega, by go_num, fun j z hj hz => ?_⟩
                by_cases e : j = i
                · subst e
                  rw [HX.out] at hz
                  cases hz
                  exact h60
                · exact HI.out j z (by omega) hz
              case measure => simp [intOf]; omega
            · have hE : Hid (smallW v = false) := by
                show smallW v = false
                have : (v.all fun r => (partsOf r).all fun x => decide (x.length ≤ 60)) = false := by
                  rw [List.all_eq_false]
                  refine ⟨r, List.mem_of_getElem? HR.out, ?_⟩
                  rw [Bool.not_eq_true, List.all_eq_false]
                  exact ⟨x, List.mem_of_getElem? HX.out, by simpa using h60⟩
                rw [smallW, this]
                rfl
              go_wp2
              go_ret
              exact ⟨ret_bool (by rw [← HY.out, hE.out]), HC.out.trans (HCB.out.trans H6.out.calm)⟩
          · obtain rfl : i = nl + nr := by omega
            go_wp2
            go_roundw
            case rel =>
              refine ⟨k + 1, S + (nl + nr), by omega, by go_num, by go_num, by omega, (by show sumTo v (k + 1) = _; rw [HSS.out, HNl.out.1, HNl.out.2]), fun j q hj hq x hx => ?_, HC.out.trans (HCB.out.trans H6.out.calm)⟩
              by_cases e : j = k
              · subst e
                rw [HR.out] at hq
                cases hq
                obtain ⟨t, ht, rfl⟩ := List.mem_iff_getElem.1 hx
                have ht' : t < nl + nr := by rw [← hlm]; exact ht
                exact HI.out t _ ht' (List.getElem?_eq_getElem ht)
              · exact HG.out j q (by omega) hq x hx
            case measure => simp [intOf]; omega
    · obtain rfl : k = n := by omega
      have hE : Hid (smallW v = (decide (k ≤ 20) && decide (S ≤ 200))) := by
        show smallW v = _
        have h1 : (v.all fun r => (partsOf r).all fun x => decide (x.length ≤ 60)) = true := List.all_eq_true.2 fun q hq => List.all_eq_true.2 fun x hx => by
          obtain ⟨j, hj, e⟩ := List.mem_iff_getElem.1 hq
          simpa using HG.out j q (by rw [← HN.out]; exact hj) (by rw [← e]; exact List.getElem?_eq_getElem hj) x hx
        rw [smallW, h1, HN.out, HS.out]
        rfl
      by_cases h20 : k ≤ 20
      · by_cases h200 : S ≤ 200
        · go_wp2
          go_ret
          exact ⟨ret_bool (by rw [← HY.out, hE.out]; simp [h20, h200]; omega), HC.out⟩
        · go_wp2
          go_ret
          exact ⟨ret_bool (by rw [← HY.out, hE.out]; simp [h20, h200]; omega), HC.out⟩
      · go_wp2
        go_ret
        exact ⟨ret_bool (by rw [← HY.out, hE.out]; simp [h20]), HC.out⟩
end Go.Proofs.YtglnkpgfdjnhnaaGreatDoor
set_option linter.unusedVariables false
set_option linter.unusedSimpArgs false
namespace Go.Proofs.YtglnkpgfdjnhnaaGreatDoor
open Go Go.RowKit Sy

def exV : List Rule := [⟨false, ⟨[[100]], true⟩, ⟨[[99]], true⟩⟩]
theorem exV_fwd : vfwd exV [47, 47, 100, 47, 97] = some [47, 47, 99, 47, 97] := by decide +kernel
theorem exV_dec : decides exV [47, 47, 101, 47, 97] = -1 := by decide +kernel
theorem exV_small : ∀ r ∈ exV, SmallV r := fun r hr => by
  rw [exV, List.mem_singleton] at hr
  subst hr
  exact ⟨by decide, by decide, by decide, by decide⟩
theorem exV_t : ∀ (k : Nat) r t, decL exV [47, 47, 100, 47, 97] = k → exV[k]? = some r → fwd r [47, 47, 100, 47, 97] = some t → t.length ≤ 10000 := fun k r t _ hr hf => by
  match k, hr with
  | 0, hr =>
    simp only [exV, List.getElem?_cons_zero, Option.some.injEq] at hr
    subst hr
    have : fwd ⟨false, ⟨[[100]], true⟩, ⟨[[99]], true⟩⟩ [47, 47, 100, 47, 97] = some [47, 47, 99, 47, 97] := by decide +kernel
    rw [this] at hf
    cases hf
    decide

def exVW (w : World) : World :=
  (((((w.alloc (Obj.cells #[Value.string ⟨#[100]⟩] 9)).alloc (Obj.cells #[Value.string ⟨#[99]⟩] 9)).alloc (Obj.cells #[Value.slice (some { block := w.heap.size, off := 0 }) 1 1, Value.bool true] 36)).alloc
    (Obj.cells #[Value.slice (some { block := w.heap.size + 1, off := 0 }) 1 1, Value.bool true] 36)).alloc
    (Obj.cells #[Value.bool false, Value.slice (some { block := w.heap.size, off := 0 }) 1 1, Value.bool true, Value.slice (some { block := w.heap.size + 1, off := 0 }) 1 1, Value.bool true] 38))
theorem exVW_calm (w : World) : Calm w (exVW w) := (((((Calm.refl w).alloc _).alloc _).alloc _).alloc _).alloc _
theorem exVW_size (w : World) : (exVW w).heap.size = w.heap.size + 5 := by simp [exVW]
theorem newv_at {v w' : World} {cs : Array Value} {t : TypeId} {n k : Nat} {x : Value} (hc : Calm (v.alloc (.cells cs t)) w') (hs : v.heap.size = n) (h : cs[k]? = some x) : w'.cell? ⟨n, k, none⟩ = some x := by
  subst hs
  refine hc.at_ ?_ (by simp)
  rw [cell_of_row _ v.heap.size k _ _ _ (heap_alloc_new v _)]
  exact h
theorem exVW_rules (w : World) : RulesU (exVW w) (some ⟨w.heap.size + 1 + 1 + 1 + 1, 0, none⟩) exV := by
  refine ⟨by decide, fun _ => ⟨_, 0, rfl, by rw [exVW_size]; omega, fun k r hr => ?_⟩⟩
  match k, hr with
  | 0, hr =>
    cases hr
    refine ⟨⟨some ⟨w.heap.size, 0, none⟩, 1, some ⟨w.heap.size + 1, 0, none⟩, 1⟩, ⟨?_, ?_, ?_, ?_, ?_⟩, ⟨⟨by decide, by decide, fun _ => ⟨_, 0, rfl, by rw [exVW_size]; omega, fun k l hl => ?_⟩⟩, ⟨by decide, by decide, fun _ => ⟨_, 0, rfl, by rw [exVW_size]; omega, fun k l hl => ?_⟩⟩, Nat.le_refl 1, Nat.le_refl 1, (by show 1 ≤ 9223372036854775807; omega), (by show 1 ≤ 9223372036854775807; omega)⟩⟩
    · exact newv_at (v := (((w.alloc _).alloc _).alloc _).alloc _) (Calm.refl _) (by simp) rfl
    · exact newv_at (v := (((w.alloc _).alloc _).alloc _).alloc _) (Calm.refl _) (by simp) rfl
    · exact newv_at (v := (((w.alloc _).alloc _).alloc _).alloc _) (Calm.refl _) (by simp) rfl
    · exact newv_at (v := (((w.alloc _).alloc _).alloc _).alloc _) (Calm.refl _) (by simp) rfl
    · exact newv_at (v := (((w.alloc _).alloc _).alloc _).alloc _) (Calm.refl _) (by simp) rfl
    · rw [Nat.zero_add]
      refine newv_at (v := w) (((((Calm.refl _).alloc _).alloc _).alloc _).alloc _) rfl ?_
      match k, hl with
      | 0, hl => cases hl; rfl
    · rw [Nat.zero_add]
      refine newv_at (v := w.alloc _) ((((Calm.refl _).alloc _).alloc _).alloc _) (by simp) ?_
      match k, hl with
      | 0, hl => cases hl; rfl

theorem exV_f (w : World) (hM : MaxL w) : Calls Tryz.prog 11 #[.slice (some ⟨w.heap.size + 1 + 1 + 1 + 1, 0, none⟩) 1 1, .string ⟨#[47, 47, 100, 47, 97]⟩] (exVW w) fun e w' => e = .returned (.tuple #[.string ⟨#[47, 47, 99, 47, 97]⟩, .bool true]) ∧ Calm (exVW w) w' := by
  have := vfwd_c exV [47, 47, 100, 47, 97] (some ⟨w.heap.size + 1 + 1 + 1 + 1, 0, none⟩) 1 1 (exVW w) (by decide) (hM.calm (exVW_calm w)) (exVW_rules w) exV_small rfl exV_t
  rw [vfV_some exV_fwd] at this
  exact this
theorem exV_d (w : World) (hM : MaxL w) (W : World) (hW : Calm (exVW w) W) : Calls Tryz.prog 12 #[.slice (some ⟨w.heap.size + 1 + 1 + 1 + 1, 0, none⟩) 1 1, .string ⟨#[47, 47, 101, 47, 97]⟩] W fun e w' => e = .returned (.int .i64 (-1)) ∧ Calm W w' :=
  vdec_c exV [47, 47, 101, 47, 97] (-1) (some ⟨w.heap.size + 1 + 1 + 1 + 1, 0, none⟩) 1 1 W (by decide) (hM.calm ((exVW_calm w).trans hW)) ((exVW_rules w).calm hW) exV_small rfl exV_dec

set_option maxRecDepth 100000 in
set_option maxHeartbeats 4000000 in
theorem awakev_c (w : World) (ht : MaxL w) : Calls Tryz.prog 6 #[] w fun e w' => e = .returned (.bool true) ∧ Calm w w' := by
  have HT := Lib.hid ht
  clear ht
  go_enter Tryz.func6, Tryz.ntmps6
  go_wp2_with fail
  refine ((exV_f w HT.out).mono ?_)
  rintro e w2 ⟨rfl, hc2⟩
  have hd := exV_d w HT.out w2 hc2
  go_wp2_with (go_at_call 12; refine hd.mono ?_; rintro e w3 ⟨rfl, hc3⟩)
  go_ret
  exact ⟨rfl, (exVW_calm w).trans (hc2.trans hc3)⟩
end Go.Proofs.YtglnkpgfdjnhnaaGreatDoor
