/- The law RegionSimplifies: its walk. -/
import Derived.Test.YtdndfkoklhfffaaDoorRSimpW
import Derived.Test.YtdndfkoklhfffaaDoorGMeetV
import Derived.Deep.DeepCutAuto
set_option linter.unusedVariables false
set_option linter.unusedSimpArgs false
namespace Go.Proofs.YtdndfkoklhfffaaDoor
open Go Go.RowKit Sy

/-- A region that the law made itself: its box, its holes. -/
structure WasAt (w2 wx : World) (B3 : Nat) (A : Option Addr) (bn c : Nat) (br : Bool) (Av : Option Addr) (nv cv : Nat) (hs : List Pat) : Prop where
  calm : Calm w2 wx
  lt : B3 < wx.heap.size
  c0 : wx.cell? ⟨B3, 0, none⟩ = some (.slice A bn c)
  c1 : wx.cell? ⟨B3, 1, none⟩ = some (.bool br)
  c2 : wx.cell? ⟨B3, 2, none⟩ = some (.slice Av nv cv)
  holes : PatsR wx Av hs
theorem WasAt.to {w2 wx wy : World} {B3 : Nat} {A : Option Addr} {bn c : Nat} {br : Bool} {Av : Option Addr} {nv cv : Nat} {hs : List Pat} (h : WasAt w2 wx B3 A bn c br Av nv cv hs) (hc : Calm wx wy) : WasAt w2 wy B3 A bn c br Av nv cv hs :=
  ⟨h.calm.trans hc, Nat.lt_of_lt_of_le h.lt hc.size, hc.at_ h.c0 h.lt, hc.at_ h.c1 h.lt, hc.at_ h.c2 h.lt, h.holes.calm hc⟩
theorem was_new {w2 w6 : World} {A : Option Addr} {bn c : Nat} {br : Bool} {Av : Option Addr} {nv cv : Nat} {hs : List Pat} (hcx : Calm w2 w6) (hr : PatsR w6 Av hs) : WasAt w2 (w6.alloc (.cells #[.slice A bn c, .bool br, .slice Av nv cv] 27)) w6.heap.size A bn c br Av nv cv hs := by
  have hcA : Calm w6 (w6.alloc (.cells #[.slice A bn c, .bool br, .slice Av nv cv] 27)) := (Calm.refl w6).alloc _
  exact ⟨hcx.trans hcA, by simp [go_sem], by simp [go_sem], by simp [go_sem], by simp [go_sem], hr.calm hcA⟩
theorem was_set {w2 w6 : World} {A : Option Addr} {bn c : Nat} {br : Bool} {Av : Option Addr} {nv cv : Nat} {hs : List Pat} {l : List NewP} (hz : ZeroK w6 w2.heap.size) (hcx : Calm w2 w6) (hown : OwnX encP 2 24 w2 w6 (.slice Av nv cv) l) (he : ∀ x ∈ l, PatA w2 x.A x.c x.p) (hl : l.length ≤ 16384) (hm : l.map (·.p) = hs) :
    WasAt w2 (((w6.setCell ⟨w2.heap.size, 0, none⟩ (.slice A bn c)).setCell ⟨w2.heap.size, 1, none⟩ (.bool br)).setCell ⟨w2.heap.size, 2, none⟩ (.slice Av nv cv)) w2.heap.size A bn c br Av nv cv hs := by
  have hcal := calm3 (o := 0) hcx (Nat.le_refl _) (.slice A bn c) (.bool br) (.slice Av nv cv)
  have hne : some w2.heap.size ≠ (Value.slice Av nv cv).ownBlock := fun e => by
    obtain ⟨cs, hh⟩ := hz.kind
    rcases hown.own.2 with ⟨hv, _⟩ | ⟨g', cap, cur, hv, _, hgh, _⟩
    · rw [hv] at e
      simp [Value.ownBlock] at e
    · rw [hv] at e
      have e2 : w2.heap.size = g' := by simpa [Value.ownBlock] using e
      rw [e2, hgh] at hh
      injection hh with hh
      injection hh with _ ht
      exact absurd ht (by decide)
  have h1 := hown.set (p := ⟨w2.heap.size, 0, none⟩) (.slice A bn c) (Nat.le_refl _) hne
  have h2 := h1.set (p := ⟨w2.heap.size, 1, none⟩) (.bool br) (Nat.le_refl _) hne
  have h3 := h2.set (p := ⟨w2.heap.size, 2, none⟩) (.slice Av nv cv) (Nat.le_refl _) hne
  have hrd := own_reads h3 (fun z hz => (he z hz).calm hcal) hl
  rw [hm] at hrd
  refine ⟨hcal, by simpa using hz.z.lt, ?_, ?_, ?_, hrd⟩
  · rw [World.cell?_setCell_other _ _ _ _ (by simp), World.cell?_setCell_other _ _ _ _ (by simp)]
    exact World.cell?_setCell_same' _ _ _ (by rw [hz.z.z0]; rfl)
  · rw [World.cell?_setCell_other _ _ _ _ (by simp)]
    exact World.cell?_setCell_same' _ _ _ (by rw [World.cell?_setCell_other _ _ _ _ (by simp), hz.z.z1]; rfl)
  · exact World.cell?_setCell_same' _ _ _ (by rw [World.cell?_setCell_other _ _ _ _ (by simp), World.cell?_setCell_other _ _ _ _ (by simp), hz.z.z2]; rfl)
theorem rgcheck_v (b : Pat) (hs : List Pat) (v : Int) (bn hn : Nat) (br : Bool) (A : Option Addr) (c : Nat) (HA : Option Addr) (hc : Nat) (w : World) (h : RegA w A c HA b hs) (hv : regErr b hs = v) (hbn : b.parts.length = bn) (hhn : hs.length = hn) (hbr : b.rest = br) :
    Calls Tryd.prog 14 #[.agg #[.slice A bn c, .bool br, .slice HA hn hc]] w fun e w' => e = .returned (.int .i64 v) ∧ Calm w w' := by
  have := rgcheck_c b hs A c HA hc w h.base h.room h.cap h.holes
  rw [hv, hbn, hhn, hbr] at this
  exact this

set_option maxRecDepth 100000 in
set_option maxHeartbeats 16000000 in
theorem simplifies_law_c (b : Pat) (hs : List Pat) (A : Option Addr) (c : Nat) (HA : Option Addr) (hc : Nat) (w : World) (hb : StrsG w A b.parts) (hh : PatsG w HA hs) (hbc : b.parts.length ≤ c) (hcc : c ≤ 9223372036854775807) (hhc : hs.length ≤ hc) (hhcc : hc ≤ 9223372036854775807) (hT : Tab w) :
    Calls Tryd.prog 8 #[.agg #[.slice A b.parts.length c, .bool b.rest, .slice HA hs.length hc]] w fun e w' => e = .returned (.bool true) ∧ Calm w w' := by
  obtain ⟨hn, hhn⟩ : ∃ hn, hs.length = hn := ⟨_, rfl⟩
  obtain ⟨bn, hbn⟩ : ∃ bn, b.parts.length = bn := ⟨_, rfl⟩
  obtain ⟨br, hbr⟩ : ∃ br, b.rest = br := ⟨_, rfl⟩
  obtain ⟨w1, hw1⟩ : ∃ w1, w1 = w.alloc (.cells #[.slice A bn c, .bool br, .slice HA hn hc] 27) := ⟨_, rfl⟩
  have hc1 : Calm w w1 := by rw [hw1]; exact (Calm.refl w).alloc _
  have hs1 : w.heap.size < w1.heap.size := by rw [hw1]; simp
  have k0 : w1.cell? ⟨w.heap.size, 0, none⟩ = some (.slice A bn c) := by rw [hw1]; simp [go_sem]
  have k1 : w1.cell? ⟨w.heap.size, 1, none⟩ = some (.bool br) := by rw [hw1]; simp [go_sem]
  have k2 : w1.cell? ⟨w.heap.size, 2, none⟩ = some (.slice HA hn hc) := by rw [hw1]; simp [go_sem]
  have hsm := small_c b hs A c HA hc w1 (hb.calm hc1) (hh.calm hc1) hbc hcc hhc hhcc
  rw [hhn, hbn, hbr] at hsm
  have HW := Lib.hid hw1
  have HC := Lib.hid hc1
  have HT := Lib.hid (hT.calm hc1)
  have HK := Lib.hid (And.intro k0 (And.intro k1 (And.intro k2 hs1)))
  have HReg : Hid (SmallB b hs → RegA w1 A c HA b hs) := fun h => h.reg (hb.calm hc1) (hh.calm hc1) hbc hcc
  have HN : Hid (hs.length = hn ∧ b.parts.length = bn ∧ b.rest = br) := ⟨hhn, hbn, hbr⟩
  rw [hhn, hbn, hbr]
  rw [hhn] at hhc
  have hhn47 : hn ≤ 140737488355328 := by have := hh.len; omega
  clear hw1 hc1 k0 k1 k2 hb hh hT hhn hbn hbr hbc
  go_enter Tryd.func8, Tryd.ntmps8
  go_wp2_with fail
  rw [← HW.out]
  refine hsm.mono ?_
  rintro e w2 ⟨⟨r, rfl, hr⟩, hc2⟩
  have l0 := hc2.at_ HK.out.1 hs1
  have l1 := hc2.at_ HK.out.2.1 hs1
  have l2 := hc2.at_ HK.out.2.2.1 hs1
  cases r with
  | false =>
    go_wp2_with (go_at_call 11; refine (awake_c _ (HT.out.calm hc2)).mono ?_; rintro e w3 ⟨rfl, hc3⟩)
    go_ret
    exact ⟨rfl, HC.out.trans (hc2.trans hc3)⟩
  | true =>
    have hreg := HReg.out (hr rfl)
    have hn70 : hn ≤ 70 := by have := (hr rfl).holes; rw [HN.out.1] at this; exact this
    obtain ⟨l, hl, hX⟩ := hreg.holes.places
    have hll : l.length = hn := by rw [← HN.out.1, ← hl, List.length_map]
    have hs2 := Nat.lt_of_lt_of_le hs1 hc2.size
    have HRg := Lib.hid hreg
    have HC2 := Lib.hid hc2
    have HL := Lib.hid (And.intro hl hll)
    have HX := Lib.hid hX
    clear hreg hr hsm HReg hl hll hX hc2 hs1
    go_upto_region 3 with (fail)
    go_cut [3] (fun s wx => ∃ B3 Av cv, s = .pointer (some ⟨B3, 0, none⟩) ∧ Hid (WasAt w2 wx B3 A bn c br Av hn cv hs))
    case first =>
      have HSX : Hid (∀ W, Calm w2 W → W.cell? ⟨w.heap.size, 0, none⟩ = some (.slice A bn c) ∧ W.cell? ⟨w.heap.size, 1, none⟩ = some (.bool br) ∧ W.cell? ⟨w.heap.size, 2, none⟩ = some (.slice HA hn hc)) := fun W hW =>
        ⟨Calm.at_ hW l0 hs2, Calm.at_ hW l1 hs2, Calm.at_ hW l2 hs2⟩
      clear l0 l1 l2
      go_region_held3 (fun W => W.cell? ⟨w.heap.size, 0, none⟩ = some (.slice A bn c) ∧ W.cell? ⟨w.heap.size, 1, none⟩ = some (.bool br) ∧ W.cell? ⟨w.heap.size, 2, none⟩ = some (.slice HA hn hc))
        (first
          | exact HSX.out _ (Below.drew (Calm.refl _))
          | exact HSX.out _ (Below.drew ((Calm.refl _).alloc _))
          | exact HSX.out _ (calm3 (o := 0) hcx (Nat.le_refl _) _ _ _)
          | exact HSX.out _ hcx
          | exact HSX.out _ (hcx.alloc _)
          | go_keep)
        (first
          | (refine step_append_ps rfl _ (.tmp 14) rfl w2 (.slice none 0 0) [] l (by simp [Act.eval, Act.put]) (OwnX.nil (by first | exact Below.drew (Calm.refl _) | exact Below.drew ((Calm.refl _).alloc _))) HA hn hc (by simp [Act.eval, Act.put]) HL.out.2 (HX.out.read.calm (HC2.out.trans (by first | exact Below.drew (Calm.refl _) | exact Below.drew ((Calm.refl _).alloc _)))) (by simp; omega) ?_; intro v6 w6 hown6 hgr6; rw [List.nil_append] at hown6; obtain ⟨A6, c6, hv6⟩ := hown6.len_shape; rw [HL.out.2] at hv6; subst hv6; have hcx : Calm w2 w6 := hown6.calm; (first | have hZ6 : ZeroK w6 w2.heap.size := (zk_newd w2).own (OwnX.nil (enc := encP) (K := 2) (T := 24) (Below.drew ((Calm.refl w2).alloc _))).own hgr6 | skip); try (have z0 := hZ6.z.z0; have z1 := hZ6.z.z1; have z2 := hZ6.z.z2; have f0 := hZ6.z.f0; have f1 := hZ6.z.f1; have f2 := hZ6.z.f2)))
      all_goals
        have hrd := own_reads hown6 (fun z hz => (HX.out.each z hz).calm (HC2.out.trans hown6.calm)) (by rw [HL.out.2]; omega)
        rw [HL.out.1] at hrd
        go_wp2_with fail
        go_meet
        case rel =>
          first
            | exact ⟨_, _, _, rfl, was_new hcx hrd⟩
            | exact ⟨_, _, _, rfl, was_set hZ6 hcx hown6 (fun z hz => (HX.out.each z hz).calm HC2.out) (by rw [HL.out.2]; omega) HL.out.1⟩
    case rest =>
      obtain ⟨B3, Av, cv, rfl, HWas⟩ := hcut
      have HRr := HRg.out.calm (HC2.out.trans HWas.out.calm)
      have l0 := Calm.at_ HWas.out.calm l0 hs2
      have l1 := Calm.at_ HWas.out.calm l1 hs2
      have l2 := Calm.at_ HWas.out.calm l2 hs2
      have hs3 := Nat.lt_of_lt_of_le hs2 HWas.out.calm.size
      obtain ⟨rl, hrl⟩ : ∃ rl, (redL b hs).length = rl := ⟨_, rfl⟩
      have hrl70 : rl ≤ 70 := by
        have h1 := redL_len b hs
        rw [hrl, HN.out.1] at h1
        omega
      have KS : Hid (∀ W, Calm wc W → Calls Tryd.prog 23 #[.agg #[.slice A bn c, .bool br, .slice HA hn hc], .agg #[.slice A bn c, .bool br, .slice Av hn cv]] W fun e w' => e = .returned (.bool true) ∧ Calm W w') := fun W hW =>
        rsameg_c b hs bn hn br A c HA hc A c Av cv W (HRr.calm hW).base.toU (HRr.calm hW).base.toU (HRr.calm hW).holes.toV (HWas.out.holes.calm hW).toV HN.out.2.1 HN.out.1 HN.out.2.2
      have HRx := Lib.hid HRr
      by_cases hv0 : regErr b hs = 0
      · have K1 : Hid (∀ W, Calm wc W → Calls Tryd.prog 22 #[.agg #[.slice A bn c, .bool br, .slice HA hn hc]] W fun e w' => (∃ A3 c3 HA3 hc3, e = .returned (.tuple #[.agg #[.slice A3 bn c3, .bool br, .slice HA3 rl hc3], .int .i64 0]) ∧ NewS w' W.heap.size A3 c3 b.parts ∧ PatsN w' W.heap.size HA3 hc3 (redL b hs)) ∧ Calm W w') := fun W hW => by
          have := simp_ok b hs A c HA hc bn hn br W (HRr.calm hW).base HRr.room HRr.cap (HRr.calm hW).holes hv0 HN.out.2.1 HN.out.1 HN.out.2.2
          unfold SimpOk at this
          rw [HN.out.2.1, HN.out.2.2, hrl] at this
          exact this
        have KC : Hid (∀ W, Calm wc W → Calls Tryd.prog 14 #[.agg #[.slice A bn c, .bool br, .slice HA hn hc]] W fun e w' => e = .returned (.int .i64 0) ∧ Calm W w') := fun W hW => rgcheck_v b hs 0 bn hn br A c HA hc W (HRr.calm hW) hv0 HN.out.2.1 HN.out.1 HN.out.2.2
        have KR : Hid (∀ W, Calm wc W → Calls Tryd.prog 24 #[.agg #[.slice A bn c, .bool br], .slice HA hn hc] W fun e w' => (∃ HA2 hc2, e = .returned (.agg #[.slice A bn c, .bool br, .slice HA2 rl hc2]) ∧ PatsN w' W.heap.size HA2 hc2 (redL b hs)) ∧ Calm W w') := fun W hW => by
          obtain ⟨g1, g2, _⟩ := regErr_zero hv0
          have := rsimp_c b hs A c HA hn hc W ⟨(HRr.calm hW).base, HRr.room, HRr.cap⟩ (HRr.calm hW).holes HN.out.1 g1 g2
          unfold RSEnd at this
          rw [HN.out.2.1, HN.out.2.2, hrl] at this
          exact this
        have HR := Lib.hid (And.intro hrl hrl70)
        clear hrl hrl70 HRr hv0
        go_wp2_with fail
        refine (K1.out wc (Calm.refl _)).mono ?_
        rintro e w3 ⟨⟨A3, c3, HA3, hc3, rfl, hn3, hp3⟩, hcc3⟩
        have m0 := Calm.at_ hcc3 l0 hs3
        have m1 := Calm.at_ hcc3 l1 hs3
        have m2 := Calm.at_ hcc3 l2 hs3
        have hsm3 := Nat.lt_of_lt_of_le hs3 hcc3.size
        go_wp2_with fail
        obtain ⟨w4, hw4⟩ : ∃ w4, w4 = w3.alloc (.cells #[.slice A3 bn c3, .bool br, .slice HA3 rl hc3] 27) := ⟨_, rfl⟩
        rw [← hw4]
        have hcc4 : Calm w3 w4 := by rw [hw4]; exact (Calm.refl w3).alloc _
        have a0 : w4.cell? ⟨w3.heap.size, 0, none⟩ = some (.slice A3 bn c3) := by rw [hw4]; simp [go_sem]
        have a1 : w4.cell? ⟨w3.heap.size, 1, none⟩ = some (.bool br) := by rw [hw4]; simp [go_sem]
        have a2 : w4.cell? ⟨w3.heap.size, 2, none⟩ = some (.slice HA3 rl hc3) := by rw [hw4]; simp [go_sem]
        have alt : w3.heap.size < w4.heap.size := by rw [hw4]; simp [go_sem]
        refine (KC.out w4 (hcc3.trans hcc4)).mono ?_
        rintro e w5 ⟨rfl, hcc5⟩
        have h35 : Calm w3 w5 := hcc4.trans hcc5
        have n0 := Calm.at_ h35 m0 hsm3
        have n1 := Calm.at_ h35 m1 hsm3
        have n2 := Calm.at_ h35 m2 hsm3
        have hwas := HWas.out.to (hcc3.trans h35)
        have o0 := hwas.c0
        have o1 := hwas.c1
        have o2 := hwas.c2
        have HA5 := Lib.hid (And.intro (Calm.at_ hcc5 a0 alt) (And.intro (Calm.at_ hcc5 a1 alt) (And.intro (Calm.at_ hcc5 a2 alt) (Nat.lt_of_lt_of_le alt hcc5.size))))
        have HN5 := Lib.hid (And.intro (hn3.calm h35) (hp3.calm h35))
        have HC5 := Lib.hid (hcc3.trans h35)
        have HM5 := Lib.hid (And.intro n0 (And.intro n1 (And.intro n2 (Nat.lt_of_lt_of_le hsm3 h35.size))))
        clear m0 m1 m2 hw4 hcc3 hcc4 hcc5 a0 a1 a2 alt h35 hwas hn3 hp3 hsm3
        go_wp2_with fail
        refine (KS.out w5 HC5.out).mono ?_
        rintro e w7 ⟨rfl, hcc7⟩
        have HSX : Hid (∀ W, Calm w7 W → W.cell? ⟨w.heap.size, 0, none⟩ = some (.slice A bn c) ∧ W.cell? ⟨w.heap.size, 1, none⟩ = some (.bool br) ∧ W.cell? ⟨w.heap.size, 2, none⟩ = some (.slice HA hn hc) ∧ W.cell? ⟨w3.heap.size, 0, none⟩ = some (.slice A3 bn c3) ∧ W.cell? ⟨w3.heap.size, 1, none⟩ = some (.bool br) ∧ W.cell? ⟨w3.heap.size, 2, none⟩ = some (.slice HA3 rl hc3)) := fun W hW =>
          ⟨Calm.at_ (hcc7.trans hW) HM5.out.1 HM5.out.2.2.2, Calm.at_ (hcc7.trans hW) HM5.out.2.1 HM5.out.2.2.2, Calm.at_ (hcc7.trans hW) HM5.out.2.2.1 HM5.out.2.2.2, Calm.at_ (hcc7.trans hW) HA5.out.1 HA5.out.2.2.2, Calm.at_ (hcc7.trans hW) HA5.out.2.1 HA5.out.2.2.2, Calm.at_ (hcc7.trans hW) HA5.out.2.2.1 HA5.out.2.2.2⟩
        have HC7 := Lib.hid (HC5.out.trans hcc7)
        have HN7 := Lib.hid (And.intro (HN5.out.1.calm hcc7) (HN5.out.2.calm hcc7))
        clear n0 n1 n2 o0 o1 o2 hcc7
        go_wp2_with fail
        go_region_held3 (fun W => W.cell? ⟨w.heap.size, 0, none⟩ = some (.slice A bn c) ∧ W.cell? ⟨w.heap.size, 1, none⟩ = some (.bool br) ∧ W.cell? ⟨w.heap.size, 2, none⟩ = some (.slice HA hn hc) ∧ W.cell? ⟨w3.heap.size, 0, none⟩ = some (.slice A3 bn c3) ∧ W.cell? ⟨w3.heap.size, 1, none⟩ = some (.bool br) ∧ W.cell? ⟨w3.heap.size, 2, none⟩ = some (.slice HA3 rl hc3))
          (first
            | exact HSX.out _ (Below.drew (Calm.refl _))
            | exact HSX.out _ hcz
            | exact HSX.out _ hcy
            | exact HSX.out _ hcx
            | go_keep)
          (first
            | (go_at_call 24; refine (KR.out _ (HC7.out.trans (Below.drew (Calm.refl _)))).mono ?_; rintro e w8 ⟨⟨HA2, hc2', rfl, hp8⟩, hcc8⟩; have hcx : Calm w7 w8 := Calm.trans (Below.drew (Calm.refl _)) hcc8)
            | (go_at_call 23; refine (rsameg_c b (redL b hs) bn rl br A3 c3 HA3 hc3 A c HA2 hc2' w8 (HN7.out.1.calm hcx).u (HRx.out.calm (HC7.out.trans hcx)).base.toU ((HN7.out.2.calm hcx).toV (by rw [HR.out.1]; have := HR.out.2; omega)) (hp8.toV (by rw [HR.out.1]; have := HR.out.2; omega)) HN.out.2.1 HR.out.1 HN.out.2.2).mono ?_; rintro e w9 ⟨rfl, hcc9⟩; have hcy : Calm w7 w9 := Calm.trans hcx hcc9)
            | (go_at_call 11; refine (awake_c _ (HT.out.calm (HC2.out.trans (HWas.out.calm.trans (HC7.out.trans hcy))))).mono ?_; rintro e w10 ⟨rfl, hcc10⟩; have hcz : Calm w7 w10 := Calm.trans hcy hcc10))
        all_goals
          go_wp2
          go_ret
          exact ⟨rfl, HC.out.trans (HC2.out.trans (HWas.out.calm.trans (HC7.out.trans hcz)))⟩
      · obtain ⟨v, hv'⟩ : ∃ v, regErr b hs = v := ⟨_, rfl⟩
        rw [hv'] at hv0
        have K1 : Hid (∀ W, Calm wc W → Calls Tryd.prog 22 #[.agg #[.slice A bn c, .bool br, .slice HA hn hc]] W fun e w' => e = .returned (.tuple #[.agg #[.slice none 0 0, .bool false, .slice none 0 0], .int .i64 v]) ∧ Calm W w') := fun W hW =>
          simp_bad b hs A c HA hc bn hn br v W (HRr.calm hW).base HRr.room HRr.cap (HRr.calm hW).holes hv' hv0 HN.out.2.1 HN.out.1 HN.out.2.2
        have KC : Hid (∀ W, Calm wc W → Calls Tryd.prog 14 #[.agg #[.slice A bn c, .bool br, .slice HA hn hc]] W fun e w' => e = .returned (.int .i64 v) ∧ Calm W w') := fun W hW => rgcheck_v b hs v bn hn br A c HA hc W (HRr.calm hW) hv' HN.out.2.1 HN.out.1 HN.out.2.2
        have hvb : (v == 0) = false := by simpa using hv0
        clear hrl hrl70 HRr hv0 hv'
        go_wp2_with fail
        refine (K1.out wc (Calm.refl _)).mono ?_
        rintro e w3 ⟨rfl, hcc3⟩
        have m0 := Calm.at_ hcc3 l0 hs3
        have m1 := Calm.at_ hcc3 l1 hs3
        have m2 := Calm.at_ hcc3 l2 hs3
        have hsm3 := Nat.lt_of_lt_of_le hs3 hcc3.size
        go_wp2_with fail
        obtain ⟨w4, hw4⟩ : ∃ w4, w4 = w3.alloc (.cells #[.slice none 0 0, .bool false, .slice none 0 0] 27) := ⟨_, rfl⟩
        rw [← hw4]
        have hcc4 : Calm w3 w4 := by rw [hw4]; exact (Calm.refl w3).alloc _
        have a0 : w4.cell? ⟨w3.heap.size, 0, none⟩ = some (.slice none 0 0) := by rw [hw4]; simp [go_sem]
        have a1 : w4.cell? ⟨w3.heap.size, 1, none⟩ = some (.bool false) := by rw [hw4]; simp [go_sem]
        have a2 : w4.cell? ⟨w3.heap.size, 2, none⟩ = some (.slice none 0 0) := by rw [hw4]; simp [go_sem]
        have alt : w3.heap.size < w4.heap.size := by rw [hw4]; simp [go_sem]
        refine (KC.out w4 (hcc3.trans hcc4)).mono ?_
        rintro e w5 ⟨rfl, hcc5⟩
        have h35 : Calm w3 w5 := hcc4.trans hcc5
        have n0 := Calm.at_ h35 m0 hsm3
        have n1 := Calm.at_ h35 m1 hsm3
        have n2 := Calm.at_ h35 m2 hsm3
        have hwas := HWas.out.to (hcc3.trans h35)
        have o0 := hwas.c0
        have o1 := hwas.c1
        have o2 := hwas.c2
        have HA5 := Lib.hid (And.intro (Calm.at_ hcc5 a0 alt) (And.intro (Calm.at_ hcc5 a1 alt) (And.intro (Calm.at_ hcc5 a2 alt) (Nat.lt_of_lt_of_le alt hcc5.size))))
        have HC5 := Lib.hid (hcc3.trans h35)
        clear m0 m1 m2 hw4 hcc3 hcc4 hcc5 a0 a1 a2 alt h35 hwas hsm3
        go_wp2_with fail
        refine (KS.out w5 HC5.out).mono ?_
        rintro e w7 ⟨rfl, hcc7⟩
        have p0 := Calm.at_ hcc7 HA5.out.1 HA5.out.2.2.2
        have p1 := Calm.at_ hcc7 HA5.out.2.1 HA5.out.2.2.2
        have p2 := Calm.at_ hcc7 HA5.out.2.2.1 HA5.out.2.2.2
        have HC7 := Lib.hid (HC5.out.trans hcc7)
        clear n0 n1 n2 o0 o1 o2 hcc7
        go_wp2_with (go_at_call 11; refine (awake_c _ (HT.out.calm (HC2.out.trans (HWas.out.calm.trans HC7.out)))).mono ?_; rintro e w10 ⟨rfl, hcc10⟩)
        go_ret
        exact ⟨rfl, HC.out.trans (HC2.out.trans (HWas.out.calm.trans (HC7.out.trans hcc10)))⟩
end Go.Proofs.YtdndfkoklhfffaaDoor
