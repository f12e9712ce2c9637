/- The law RegionOrder: its walk. -/
import Derived.Test.YtdndfkoklhfffaaDoorSimpW
set_option linter.unusedVariables false
set_option linter.unusedSimpArgs false
namespace Go.Proofs.YtdndfkoklhfffaaDoor
open Go Go.RowKit Sy

/-- Which hole stands at place i. -/
def oix (n Z i : Nat) : Nat := (n - i % n + Z) % n
def ordTo (hs : List Pat) (Z k : Nat) : List Pat := (List.range k).map fun i => hs.getD (oix hs.length Z i) default
theorem oix_lt {n Z i : Nat} (h : 0 < n) : oix n Z i < n := Nat.mod_lt _ h
theorem ordTo_succ (hs : List Pat) (Z k : Nat) : ordTo hs Z (k + 1) = ordTo hs Z k ++ [hs.getD (oix hs.length Z k) default] := by simp [ordTo, List.range_succ]
theorem ordTo_len (hs : List Pat) (Z k : Nat) : (ordTo hs Z k).length = k := by simp [ordTo]
theorem oix_onto {n Z j : Nat} (hj : j < n) (hZ : Z < n) : ∃ i, i < n ∧ oix n Z i = j := by
  by_cases h : Z < j
  · refine ⟨n + Z - j, by omega, ?_⟩
    unfold oix
    rw [Nat.mod_eq_of_lt (show n + Z - j < n by omega), show n - (n + Z - j) + Z = j by omega, Nat.mod_eq_of_lt hj]
  · refine ⟨Z - j, by omega, ?_⟩
    unfold oix
    rw [Nat.mod_eq_of_lt (show Z - j < n by omega), show n - (Z - j) + Z = j + n by omega, Nat.add_mod_right, Nat.mod_eq_of_lt hj]
theorem ordTo_mem {hs : List Pat} {Z : Nat} (hZ : Z < hs.length) (p : Pat) : p ∈ ordTo hs Z (hs.length + 1) ↔ p ∈ hs := by
  have h0 : 0 < hs.length := by omega
  constructor
  · intro h
    obtain ⟨i, _, rfl⟩ := List.mem_map.1 h
    have := oix_lt (Z := Z) (i := i) h0
    rw [List.getD_eq_getElem?_getD, List.getElem?_eq_getElem this]
    exact List.getElem_mem _
  · intro h
    obtain ⟨j, hj, rfl⟩ := List.mem_iff_getElem.1 h
    obtain ⟨i, hi, e⟩ := oix_onto hj hZ
    refine List.mem_map.2 ⟨i, List.mem_range.2 (by omega), ?_⟩
    rw [e, List.getD_eq_getElem?_getD, List.getElem?_eq_getElem hj]
    rfl
theorem regErr_same {b : Pat} {hs ks : List Pat} (hm : ∀ p, p ∈ ks ↔ p ∈ hs) (h1 : hs.length ≤ 64) (h2 : ks.length ≤ 64) : regErr b ks = regErr b hs := by
  have ha : (ks.any fun h => patErr h != 0) = (hs.any fun h => patErr h != 0) := by
    rw [Bool.eq_iff_iff, List.any_eq_true, List.any_eq_true]
    exact ⟨fun ⟨x, hx, h⟩ => ⟨x, (hm x).1 hx, h⟩, fun ⟨x, hx, h⟩ => ⟨x, (hm x).2 hx, h⟩⟩
  unfold regErr
  rw [ha, if_neg (show ¬ 64 < hs.length by omega), if_neg (show ¬ 64 < ks.length by omega)]
/-- The holes that h takes from g: they lie where g's lie. -/
structure OldN (w : World) (x : NewP) : Prop where
  r : StrsR w x.A x.p.parts
  room : x.p.parts.length ≤ x.c
  cap : x.c ≤ 140737488355328
theorem patsR_own {w0 wr wb : World} {v : Value} {l : List NewP} (h : OwnX encP 2 24 w0 wr v l) (hl : l.length ≤ 16384) (hc : Calm wb wr) (he : ∀ x ∈ l, OldN wb x) : ∃ A c, v = .slice A l.length c ∧ PatsR wr A (l.map (·.p)) := by
  rcases h.row encP_len with ⟨rfl, h0⟩ | ⟨g, c, rfl, _, _, _, hr⟩
  · subst h0
    exact ⟨none, 0, rfl, Nat.zero_le _, fun h => absurd h (Nat.lt_irrefl _)⟩
  · refine ⟨_, c, rfl, by rw [List.length_map]; exact hl, fun h0 => ⟨g, 0, rfl, hr.lt, fun k p hp => ?_⟩⟩
    rw [List.getElem?_map] at hp
    obtain ⟨x, hx, rfl⟩ := Option.map_eq_some_iff.1 hp
    have ho := he x (List.mem_of_getElem? hx)
    exact ⟨x.A, x.c, hr.cell k x hx 0 _ rfl, hr.cell k x hx 1 _ rfl, ho.room, ho.cap, ho.r.calm hc⟩

theorem patsV_nil (w : World) : PatsV w none [] := ⟨Nat.zero_le _, fun h => absurd h (Nat.lt_irrefl _)⟩

set_option maxRecDepth 100000 in
set_option maxHeartbeats 8000000 in
theorem order_law_c (b : Pat) (hs : List Pat) (z : Int) (A : Option Addr) (c : Nat) (HA : Option Addr) (hc : Nat) (w : World) (hz : -9223372036854775808 ≤ z ∧ z ≤ 9223372036854775807) (hb : StrsG w A b.parts) (hh : PatsG w HA hs) (hbc : b.parts.length ≤ c) (hcc : c ≤ 140737488355328) (hhc : hs.length ≤ hc) (hhcc : hc ≤ 140737488355328) (hT : Tab w) :
    Calls Tryd.prog 7 #[.agg #[.slice A b.parts.length c, .bool b.rest, .slice HA hs.length hc], .int .i64 z] w fun e w' => e = .returned (.bool true) ∧ Calm w w' := by
  obtain ⟨hn, hhn⟩ : ∃ hn, hs.length = hn := ⟨_, rfl⟩
  obtain ⟨bn, hbn⟩ : ∃ bn, b.parts.length = bn := ⟨_, rfl⟩
  obtain ⟨br, hbr⟩ : ∃ br, b.rest = br := ⟨_, rfl⟩
  obtain ⟨w1, hw1⟩ : ∃ w1, w1 = w.alloc (.cells #[.slice A bn c, .bool br, .slice HA hn hc] 27) := ⟨_, rfl⟩
  have hc1 : Calm w w1 := by rw [hw1]; exact (Calm.refl w).alloc _
  have hs1 : w.heap.size < w1.heap.size := by rw [hw1]; simp
  have k0 : w1.cell? ⟨w.heap.size, 0, none⟩ = some (.slice A bn c) := by rw [hw1]; simp [go_sem]
  have k1 : w1.cell? ⟨w.heap.size, 1, none⟩ = some (.bool br) := by rw [hw1]; simp [go_sem]
  have k2 : w1.cell? ⟨w.heap.size, 2, none⟩ = some (.slice HA hn hc) := by rw [hw1]; simp [go_sem]
  have hsm := small_c b hs A c HA hc w1 (hb.calm hc1) (hh.calm hc1) hbc hcc hhc hhcc
  rw [hhn, hbn, hbr] at hsm
  have HW := Lib.hid hw1
  have HC := Lib.hid hc1
  have HT := Lib.hid (hT.calm hc1)
  have HK := Lib.hid (And.intro k0 (And.intro k1 k2))
  have HReg : Hid (SmallB b hs → RegA w1 A c HA b hs) := fun h => h.reg (hb.calm hc1) (hh.calm hc1) hbc hcc
  have HN : Hid (hs.length = hn ∧ b.parts.length = bn ∧ b.rest = br) := ⟨hhn, hbn, hbr⟩
  rw [hhn, hbn, hbr]
  rw [hhn] at hhc
  have hhn47 : hn ≤ 140737488355328 := by omega
  obtain ⟨hz1, hz2⟩ := hz
  clear hw1 hc1 k0 k1 k2 hb hh hT hhn hbn hbr hbc
  go_enter Tryd.func7, Tryd.ntmps7
  go_wp2_with fail
  rw [← HW.out]
  refine hsm.mono ?_
  rintro e w2 ⟨⟨r, rfl, hr⟩, hc2⟩
  have l0 := hc2.at_ HK.out.1 hs1
  have l1 := hc2.at_ HK.out.2.1 hs1
  have l2 := hc2.at_ HK.out.2.2 hs1
  cases r with
  | false =>
    go_wp2_with (go_at_call 11; refine (awake_c _ (HT.out.calm hc2)).mono ?_; rintro e w3 ⟨rfl, hc3⟩)
    go_ret
    exact ⟨rfl, HC.out.trans (hc2.trans hc3)⟩
  | true =>
    have hreg := HReg.out (hr rfl)
    have HSb := Lib.hid (hr rfl)
    by_cases hgo : hn ≠ 0 ∧ hn < 64 ∧ 0 ≤ z
    · obtain ⟨hn0, hn64, hz0⟩ := hgo
      have hb0 : ((hn : Int) == 0) = false := by simp; omega
      have hn1 : 0 < hn := by omega
      have HRg := Lib.hid hreg
      clear hreg hr hsm hn0 HReg
      obtain ⟨zn, rfl⟩ : ∃ zn : Nat, z = (zn : Int) := ⟨z.toNat, by omega⟩
      obtain ⟨Z, hZ⟩ : ∃ Z, Z = zn % hn := ⟨_, rfl⟩
      have hZl : Z < hn := by rw [hZ]; exact Nat.mod_lt _ hn1
      have e50 : (zn : Int).tmod (hn : Int) = (Z : Int) := by
        rw [show (zn : Int).tmod (hn : Int) = ((zn % hn : Nat) : Int) from rfl, ← hZ]
      obtain ⟨w8, hw8⟩ : ∃ w8, w8 = w2.alloc (.cells #[.slice A bn c, .bool br, .slice none 0 0] 27) := ⟨_, rfl⟩
      have hc8 : Calm w2 w8 := by rw [hw8]; exact (Calm.refl w2).alloc _
      have HG0 : Hid (GTo w2 w8 w2.heap.size A bn c br (.slice none 0 0) []) := ⟨OwnX.nil hc8, Nat.le_refl _, by rw [hw8]; exact ⟨_, heap_alloc_new w2 _⟩, by rw [hw8]; simp [go_sem], by rw [hw8]; simp [go_sem], by rw [hw8]; simp [go_sem]⟩
      have HW8 := Lib.hid hw8
      have HC2 := Lib.hid hc2
      have HZ := Lib.hid (And.intro hZ hZl)
      clear hw8 hc8 hz0 hz1 hZ hc2
      go_wp2_with fail
      rw [← HW8.out]
      go_loopw [7] (fun u wr => ∃ (i : Nat) (Av : Option Addr) (nv cv : Nat) (hl : List NewP), i ≤ hn + 1 ∧ u = .int .i64 i ∧ Hid (GTo w2 wr w2.heap.size A bn c br (.slice Av nv cv) hl) ∧ Hid (hl.map (·.p) = ordTo hs Z i ∧ ∀ x ∈ hl, OldN w1 x)) (fun u _ => hn + 1 - (intOf u).toNat)
      case atStart => exact ⟨0, _, _, _, [], Nat.zero_le _, rfl, HG0.out, ⟨rfl, fun x hx => by cases hx⟩⟩
      case round =>
        obtain ⟨i, Av, nv, cv, hl, hi, rfl, HGk, HL⟩ := hrel
        have HCq : Hid (Calm w2 wr) := HGk.out.own.calm
        have HCr : Hid (Calm w1 wr) := HC2.out.trans HCq.out
        by_cases hlt : i ≤ hn
        · obtain ⟨bb, o, p, Ak, ck, rfl, hbb0, hp, q1, q2, q3, q4, q5⟩ := HRg.out.holes.get (k := oix hn Z i) (by rw [HN.out.1]; exact oix_lt hn1)
          replace q1 := Calm.at_ HCr.out q1 hbb0
          replace q2 := Calm.at_ HCr.out q2 hbb0
          have hbb := Nat.lt_of_lt_of_le hbb0 HCr.out.size
          have e46 : (i : Int).tmod (hn : Int) = ((i % hn : Nat) : Int) := rfl
          have e53 : ((hn - i % hn + Z : Nat) : Int).tmod (hn : Int) = ((oix hn Z i : Nat) : Int) := rfl
          have hq := Nat.mod_lt i hn1
          have ho := oix_lt (Z := Z) (i := i) hn1
          have HO : Hid (hs.getD (oix hs.length Z i) default = p ∧ OldN w1 ⟨Ak, ck, p⟩) := by
            refine ⟨?_, ⟨q5, q3, q4⟩⟩
            rw [HN.out.1, List.getD_eq_getElem?_getD, hp]
            rfl
          generalize hsm0 : oix hn Z i = J at *
          generalize hsm1 : hn - i % hn + Z = s1 at *
          have e47 : IntKind.i64.wrap ((hn : Int) - ((i % hn : Nat) : Int)) = ((hn - i % hn : Nat) : Int) := by
            generalize i % hn = q at *
            rw [IntKind.wrap_i64]
            omega
          have e51 : IntKind.i64.wrap (((hn - i % hn : Nat) : Int) + (Z : Int)) = (s1 : Int) := by
            rw [← hsm1]
            generalize i % hn = q at *
            rw [IntKind.wrap_i64]
            omega
          generalize i % hn = q at *
          generalize hn - q = s0 at *
          have hbz : ¬ hn = 0 := by omega
          have z2 := HGk.out.c2
          have hb6 := HGk.out.lt
          have l2 := Calm.at_ HCr.out HK.out.2.2 hs1
          have hkl : hl.length ≤ 1000000 := by
            have h1 := congrArg List.length HL.out.1
            rw [List.length_map, ordTo_len] at h1
            omega
          have HP1 : Hid ((hl ++ [(⟨Ak, ck, p⟩ : NewP)]).map (·.p) = ordTo hs Z (i + 1) ∧ ∀ x ∈ hl ++ [(⟨Ak, ck, p⟩ : NewP)], OldN w1 x) := by
            refine ⟨?_, fun x hx => ?_⟩
            · rw [ordTo_succ, HO.out.1, List.map_append, HL.out.1]
              rfl
            · rcases List.mem_append.1 hx with h1 | h1
              · exact HL.out.2 x h1
              · rw [List.mem_singleton.1 h1]
                exact HO.out.2
          clear hsm0 hsm1 hq hp q3 q4 q5 hbb0
          go_wp2_with fail
          go_region_law ((refine step_append_p rfl (.tmp 40) (.tmp 56) rfl w2 (.slice Av nv cv) hl (by simp [Act.eval, Act.put]) (HGk.out.own.to (by first | exact Calm.refl _ | exact (Calm.refl _).drewN _ | exact (Calm.refl _).alloc _ | exact ((Calm.refl _).drewN _).alloc _ | exact ((Calm.refl _).alloc _).drewN _)) _ 1 rfl ⟨Ak, ck, p⟩ (by first | exact new_p ⟨Ak, ck, p⟩ rfl | exact new_pd ⟨Ak, ck, p⟩ rfl ((Calm.refl _).drewN _) | exact new_pd ⟨Ak, ck, p⟩ rfl (Calm.refl _)) hkl ?_; intro v10 w10 hown10 hgr10; obtain ⟨A10, n10, c10, hv10⟩ := hown10.shape; subst hv10; obtain ⟨s2, sf⟩ := HGk.out.after (by first | exact Calm.refl _ | exact (Calm.refl _).drewN _ | exact (Calm.refl _).alloc _ | exact ((Calm.refl _).drewN _).alloc _ | exact ((Calm.refl _).alloc _).drewN _) hgr10; have HP := Lib.hid (HGk.out.put (by first | exact Calm.refl _ | exact (Calm.refl _).drewN _ | exact (Calm.refl _).alloc _ | exact ((Calm.refl _).drewN _).alloc _ | exact ((Calm.refl _).alloc _).drewN _) hown10 hgr10)))
          all_goals
            clear hown10 hgr10 s2 sf z2
            try simp only [List.getElem_toArray, List.getElem_cons_succ, List.getElem_cons_zero, Act.put, List.setIfInBounds_toArray, List.set_cons_succ, List.set_cons_zero]
            go_wp2
            go_roundw
            case rel => exact ⟨i + 1, _, _, _, _, by omega, by go_num, HP.out, HP1.out⟩
            case measure => simp [intOf]; omega
        · obtain rfl : i = hn + 1 := by omega
          have HRr := HRg.out.calm HCr.out
          have hll : hl.length = hn + 1 := by
            have h1 := congrArg List.length HL.out.1
            rw [List.length_map, ordTo_len] at h1
            exact h1
          obtain ⟨A', c', hv, hp'⟩ := patsR_own HGk.out.own (by omega) HCr.out HL.out.2
          obtain ⟨rfl, hnv, rfl⟩ : Av = A' ∧ nv = hl.length ∧ cv = c' := by simpa using hv
          have hmem : ∀ p, p ∈ hl.map (·.p) ↔ p ∈ hs := fun p => by
            rw [HL.out.1]
            have := ordTo_mem (hs := hs) (Z := Z) (by rw [HN.out.1]; exact HZ.out.2) p
            rw [HN.out.1] at this
            exact this
          have hkn : (hl.map (·.p)).length = nv := by rw [List.length_map, hnv]
          have hred := redL_same (b := b) hmem
          have hreg := regErr_same (b := b) hmem (by rw [HN.out.1]; omega) (by rw [hkn, hnv, hll]; omega)
          have l0 := Calm.at_ HCr.out HK.out.1 hs1
          have l1 := Calm.at_ HCr.out HK.out.2.1 hs1
          have l2 := Calm.at_ HCr.out HK.out.2.2 hs1
          have hn64' : (64 : Nat) ≥ hn := by omega
          obtain ⟨rl, hrl⟩ : ∃ rl, (redL b hs).length = rl := ⟨_, rfl⟩
          have hrl64 : rl ≤ 64 := by
            have h1 := redL_len b hs
            rw [hrl, HN.out.1] at h1
            omega
          by_cases hv0 : regErr b hs = 0
          · have K1 : Hid (∀ W, Calm wr W → Calls Tryd.prog 22 #[.agg #[.slice A bn c, .bool br, .slice HA hn hc]] W fun e w' => (∃ A3 c3 HA3 hc3, e = .returned (.tuple #[.agg #[.slice A3 bn c3, .bool br, .slice HA3 rl hc3], .int .i64 0]) ∧ NewS w' W.heap.size A3 c3 b.parts ∧ PatsN w' W.heap.size HA3 hc3 (redL b hs)) ∧ Calm W w') := fun W hW => by
              have := simp_ok b hs A c HA hc bn hn br W (HRr.calm hW).base HRr.room HRr.cap (HRr.calm hW).holes hv0 HN.out.2.1 HN.out.1 HN.out.2.2
              unfold SimpOk at this
              rw [HN.out.2.1, HN.out.2.2, hrl] at this
              exact this
            have K2 : Hid (∀ W, Calm wr W → Calls Tryd.prog 22 #[.agg #[.slice A bn c, .bool br, .slice Av nv cv]] W fun e w' => (∃ A3 c3 HA3 hc3, e = .returned (.tuple #[.agg #[.slice A3 bn c3, .bool br, .slice HA3 rl hc3], .int .i64 0]) ∧ NewS w' W.heap.size A3 c3 b.parts ∧ PatsN w' W.heap.size HA3 hc3 (redL b hs)) ∧ Calm W w') := fun W hW => by
              have := simp_ok b (hl.map (·.p)) A c Av cv bn nv br W (HRr.calm hW).base HRr.room HRr.cap (hp'.calm hW) (hreg.trans hv0) HN.out.2.1 hkn HN.out.2.2
              unfold SimpOk at this
              rw [hred, HN.out.2.1, HN.out.2.2, hrl] at this
              exact this
            have HR := Lib.hid (And.intro hrl hrl64)
            clear hnv hrl hrl64 hreg hred hkn hmem hp' hv hll HRr hv0
            go_wp2_with fail
            refine (K1.out wr (Calm.refl _)).mono ?_
            rintro e w3 ⟨⟨A3, c3, HA3, hc3, rfl, hn3, hp3⟩, hcc3⟩
            have g3 := HGk.out.calm hcc3
            have g0 := g3.c0
            have g1 := g3.c1
            have g2 := g3.c2
            have glt := g3.lt
            have HN3 := Lib.hid (And.intro hn3 hp3)
            have HC3 := Lib.hid hcc3
            clear g3 hn3 hp3 hcc3 l0 l1 l2
            go_wp2_with fail
            obtain ⟨w4, hw4⟩ : ∃ w4, w4 = w3.alloc (.cells #[.slice A3 bn c3, .bool br, .slice HA3 rl hc3] 27) := ⟨_, rfl⟩
            rw [← hw4]
            have hcc4 : Calm w3 w4 := by rw [hw4]; exact (Calm.refl w3).alloc _
            have a0 : w4.cell? ⟨w3.heap.size, 0, none⟩ = some (.slice A3 bn c3) := by rw [hw4]; simp [go_sem]
            have a1 : w4.cell? ⟨w3.heap.size, 1, none⟩ = some (.bool br) := by rw [hw4]; simp [go_sem]
            have a2 : w4.cell? ⟨w3.heap.size, 2, none⟩ = some (.slice HA3 rl hc3) := by rw [hw4]; simp [go_sem]
            have alt : w3.heap.size < w4.heap.size := by rw [hw4]; simp [go_sem]
            refine (K2.out w4 (HC3.out.trans hcc4)).mono ?_
            rintro e w5 ⟨⟨A5, c5, HA5, hc5, rfl, hn5, hp5⟩, hcc5⟩
            replace a0 := Calm.at_ hcc5 a0 alt
            replace a1 := Calm.at_ hcc5 a1 alt
            replace a2 := Calm.at_ hcc5 a2 alt
            have alt5 := Nat.lt_of_lt_of_le alt hcc5.size
            have HN5 := Lib.hid (And.intro hn5 hp5)
            have HC5 := Lib.hid (hcc4.trans hcc5)
            clear hw4 hcc4 hcc5 hn5 hp5 alt g0 g1 g2
            have KS : Hid (∀ W, Calm w5 W → Calls Tryd.prog 23 #[.agg #[.slice A3 bn c3, .bool br, .slice HA3 rl hc3], .agg #[.slice A5 bn c5, .bool br, .slice HA5 rl hc5]] W fun e w' => e = .returned (.bool true) ∧ Calm W w') := fun W hW =>
              rsameg_c b (redL b hs) bn rl br A3 c3 HA3 hc3 A5 c5 HA5 hc5 W ((HN3.out.1.calm HC5.out).calm hW).u ((HN5.out.1).calm hW).u (((HN3.out.2.calm HC5.out).calm hW).toV (by rw [HR.out.1]; have := HR.out.2; omega)) ((HN5.out.2.calm hW).toV (by rw [HR.out.1]; have := HR.out.2; omega)) HN.out.2.1 HR.out.1 HN.out.2.2
            go_wp2_with (first
              | (go_at_call 23; refine (KS.out _ ((Calm.refl _).alloc _)).mono ?_; rintro e w7 ⟨rfl, hcc7⟩)
              | (go_at_call 11; refine (awake_c _ (HT.out.calm (HCr.out.trans (HC3.out.trans (HC5.out.trans (((Calm.refl _).alloc _).trans hcc7)))))).mono ?_; rintro e w8 ⟨rfl, hcc8⟩))
            go_ret
            exact ⟨rfl, HC.out.trans (HCr.out.trans (HC3.out.trans (HC5.out.trans (((Calm.refl _).alloc _).trans (hcc7.trans hcc8)))))⟩
          · obtain ⟨v, hv'⟩ : ∃ v, regErr b hs = v := ⟨_, rfl⟩
            rw [hv'] at hv0 hreg
            have K1 : Hid (∀ W, Calm wr W → Calls Tryd.prog 22 #[.agg #[.slice A bn c, .bool br, .slice HA hn hc]] W fun e w' => e = .returned (.tuple #[.agg #[.slice none 0 0, .bool false, .slice none 0 0], .int .i64 v]) ∧ Calm W w') := fun W hW =>
              simp_bad b hs A c HA hc bn hn br v W (HRr.calm hW).base HRr.room HRr.cap (HRr.calm hW).holes hv' hv0 HN.out.2.1 HN.out.1 HN.out.2.2
            have K2 : Hid (∀ W, Calm wr W → Calls Tryd.prog 22 #[.agg #[.slice A bn c, .bool br, .slice Av nv cv]] W fun e w' => e = .returned (.tuple #[.agg #[.slice none 0 0, .bool false, .slice none 0 0], .int .i64 v]) ∧ Calm W w') := fun W hW =>
              simp_bad b (hl.map (·.p)) A c Av cv bn nv br v W (HRr.calm hW).base HRr.room HRr.cap (hp'.calm hW) hreg hv0 HN.out.2.1 hkn HN.out.2.2
            clear hnv hrl hrl64 hreg hred hkn hmem hp' hv hll HRr hv0 hv'
            go_wp2_with fail
            refine (K1.out wr (Calm.refl _)).mono ?_
            rintro e w3 ⟨rfl, hcc3⟩
            have g3 := HGk.out.calm hcc3
            have g0 := g3.c0
            have g1 := g3.c1
            have g2 := g3.c2
            have glt := g3.lt
            have HC3 := Lib.hid hcc3
            clear g3 hcc3 l0 l1 l2
            go_wp2_with fail
            obtain ⟨w4, hw4⟩ : ∃ w4, w4 = w3.alloc (.cells #[.slice none 0 0, .bool false, .slice none 0 0] 27) := ⟨_, rfl⟩
            rw [← hw4]
            have hcc4 : Calm w3 w4 := by rw [hw4]; exact (Calm.refl w3).alloc _
            have a0 : w4.cell? ⟨w3.heap.size, 0, none⟩ = some (.slice none 0 0) := by rw [hw4]; simp [go_sem]
            have a1 : w4.cell? ⟨w3.heap.size, 1, none⟩ = some (.bool false) := by rw [hw4]; simp [go_sem]
            have a2 : w4.cell? ⟨w3.heap.size, 2, none⟩ = some (.slice none 0 0) := by rw [hw4]; simp [go_sem]
            have alt : w3.heap.size < w4.heap.size := by rw [hw4]; simp [go_sem]
            refine (K2.out w4 (HC3.out.trans hcc4)).mono ?_
            rintro e w5 ⟨rfl, hcc5⟩
            replace a0 := Calm.at_ hcc5 a0 alt
            replace a1 := Calm.at_ hcc5 a1 alt
            replace a2 := Calm.at_ hcc5 a2 alt
            have alt5 := Nat.lt_of_lt_of_le alt hcc5.size
            have HC5 := Lib.hid (hcc4.trans hcc5)
            clear hw4 hcc4 hcc5 alt g0 g1 g2
            have KS : Hid (∀ W, Calm w5 W → Calls Tryd.prog 23 #[.agg #[.slice none 0 0, .bool false, .slice none 0 0], .agg #[.slice none 0 0, .bool false, .slice none 0 0]] W fun e w' => e = .returned (.bool true) ∧ Calm W w') := fun W hW =>
              rsameg_c ⟨[], false⟩ [] 0 0 false none 0 none 0 none 0 none 0 W (NewS.nil W 0).u (NewS.nil W 0).u (patsV_nil W) (patsV_nil W) rfl rfl rfl
            go_wp2_with (first
              | (go_at_call 23; refine (KS.out _ ((Calm.refl _).alloc _)).mono ?_; rintro e w7 ⟨rfl, hcc7⟩)
              | (go_at_call 11; refine (awake_c _ (HT.out.calm (HCr.out.trans (HC3.out.trans (HC5.out.trans (((Calm.refl _).alloc _).trans hcc7)))))).mono ?_; rintro e w8 ⟨rfl, hcc8⟩))
            go_ret
            exact ⟨rfl, HC.out.trans (HCr.out.trans (HC3.out.trans (HC5.out.trans (((Calm.refl _).alloc _).trans (hcc7.trans hcc8)))))⟩
    · have key : hn = 0 ∨ (hn ≠ 0 ∧ 64 ≤ hn) ∨ (hn ≠ 0 ∧ hn < 64 ∧ z < 0) := by omega
      clear hgo hreg hr hsm HReg
      rcases key with rfl | ⟨h1, h2⟩ | ⟨h1, h2, h3⟩
      · go_wp2_with (go_at_call 11; refine (awake_c _ (HT.out.calm hc2)).mono ?_; rintro e w3 ⟨rfl, hc3⟩)
        go_ret
        exact ⟨rfl, HC.out.trans (hc2.trans hc3)⟩
      · have hb0 : ((hn : Int) == 0) = false := by simp; omega
        clear h1
        go_wp2_with (go_at_call 11; refine (awake_c _ (HT.out.calm hc2)).mono ?_; rintro e w3 ⟨rfl, hc3⟩)
        go_ret
        exact ⟨rfl, HC.out.trans (hc2.trans hc3)⟩
      · have hb0 : ((hn : Int) == 0) = false := by simp; omega
        clear h1
        go_wp2_with (go_at_call 11; refine (awake_c _ (HT.out.calm hc2)).mono ?_; rintro e w3 ⟨rfl, hc3⟩)
        go_ret
        exact ⟨rfl, HC.out.trans (hc2.trans hc3)⟩
end Go.Proofs.YtdndfkoklhfffaaDoor
