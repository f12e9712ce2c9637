/- Walks: Simplify of a region; the reference's Same of regions. -/
import Derived.Test.YtdndfkoklhfffaaGreatDoorRed3W
import Derived.Test.YtdndfkoklhfffaaGreatDoorSameP
import Derived.Test.YtdndfkoklhfffaaGreatDoorWalkE
import Derived.Test.YtdndfkoklhfffaaGreatDoorWalkV
set_option linter.unusedVariables false
set_option linter.unusedSimpArgs false
namespace Go.Proofs.YtdndfkoklhfffaaGreatDoor
open Go Go.RowKit Sy

/-- A region in memory. -/
structure RegA (w : World) (A : Option Addr) (c : Nat) (HA : Option Addr) (b : Pat) (hs : List Pat) : Prop where
  base : StrsR w A b.parts
  room : b.parts.length ≤ c
  cap : c ≤ 9223372036854775807
  holes : PatsR w HA hs
theorem RegA.calm {w w' : World} {A : Option Addr} {c : Nat} {HA : Option Addr} {b : Pat} {hs : List Pat} (h : RegA w A c HA b hs) (hc : Calm w w') : RegA w' A c HA b hs := ⟨h.base.calm hc, h.room, h.cap, h.holes.calm hc⟩
theorem SmallB.reg {w : World} {A : Option Addr} {c : Nat} {HA : Option Addr} {b : Pat} {hs : List Pat} (h : SmallB b hs) (hb : StrsG w A b.parts) (hh : PatsG w HA hs) (hbc : b.parts.length ≤ c) (hcc : c ≤ 9223372036854775807) : RegA w A c HA b hs :=
  ⟨hb.toR (by have := h.base; omega) (fun l hl => by have := h.strs l hl; omega), hbc, hcc, hh.toR (by have := h.holes; omega) (fun p hp => ⟨by have := (h.parts p hp).1; omega, fun l hl => by have := (h.parts p hp).2 l hl; omega⟩)⟩
theorem regErr_zero {b : Pat} {hs : List Pat} (h : regErr b hs = 0) : patErr b = 0 ∧ (∀ p ∈ hs, patErr p = 0) ∧ hs.length ≤ 64 := by
  unfold regErr at h
  split at h
  · cases h
  · rename_i h1
    split at h
    · cases h
    · rename_i h2
      split at h
      · cases h
      · rename_i h3
        refine ⟨by omega, fun p hp => ?_, by omega⟩
        rw [Bool.not_eq_true, List.any_eq_false] at h2
        have := h2 p hp
        simpa using this
theorem PatsN.set {w : World} {B : Nat} {A : Option Addr} {c : Nat} {ps : List Pat} (h : PatsN w B A c ps) {p : Addr} (u : Value) (hp : p.block < B) : PatsN (w.setCell p u) B A c ps := by
  obtain ⟨l, h1, h2, h3⟩ := h.ex
  refine ⟨⟨l, h1, ?_, fun x hx => (h3 x hx).set u hp⟩, h.room, h.cap⟩
  rcases h2 with h2 | ⟨g, hA, hg, hr⟩
  · exact .inl h2
  · exact .inr ⟨g, hA, hg, hr.of_block (Deep.blk_setCell_other _ _ _ _ (by omega))⟩
theorem PatsN.mono {w : World} {B B' : Nat} {A : Option Addr} {c : Nat} {ps : List Pat} (h : PatsN w B A c ps) (hB : B' ≤ B) : PatsN w B' A c ps := by
  obtain ⟨l, h1, h2, h3⟩ := h.ex
  refine ⟨⟨l, h1, ?_, fun x hx => (h3 x hx).mono hB⟩, h.room, h.cap⟩
  rcases h2 with h2 | ⟨g, hA, hg, hr⟩
  · exact .inl h2
  · exact .inr ⟨g, hA, Nat.le_trans hB hg, hr⟩
theorem PatsN.calm {w w' : World} {B : Nat} {A : Option Addr} {c : Nat} {ps : List Pat} (h : PatsN w B A c ps) (hc : Calm w w') : PatsN w' B A c ps := by
  obtain ⟨l, h1, h2, h3⟩ := h.ex
  refine ⟨⟨l, h1, ?_, fun x hx => (h3 x hx).calm hc⟩, h.room, h.cap⟩
  rcases h2 with h2 | ⟨g, hA, hg, hr⟩
  · exact .inl h2
  · exact .inr ⟨g, hA, hg, hr.calm hc⟩

theorem results_cell_slot3 {fn : Func} {p q : Tmp} {ty : TypeId} (h : fn.results = #[.cell p ty, .tmp q]) (tmps : Array Value) (P : Program) (w : World) :
    (results fn tmps).run P w = ((asAddr (tmps.getD p undef)).run P w).andThen fun a w₁ => ((loadVar ty a).run P w₁).andThen fun v w₂ => .ok (.tuple #[v, tmps.getD q undef]) w₂ := results_cell_slot h tmps P w
def SimpOk (b : Pat) (hs : List Pat) (B : Nat) (e : Ending) (w' : World) : Prop := ∃ A c HA hc, e = .returned (.tuple #[.agg #[.slice A b.parts.length c, .bool b.rest, .slice HA (redL b hs).length hc], .int .i64 0]) ∧ NewS w' B A c b.parts ∧ PatsN w' B HA hc (redL b hs)

/-- The two boxes of Simplify. -/
structure BoxS (w1 : World) (B : Nat) (A : Option Addr) (n c : Nat) (re : Bool) (HA : Option Addr) (m hc : Nat) : Prop where
  size : B + 2 ≤ w1.heap.size
  x0 : w1.cell? ⟨B, 0, none⟩ = some (.slice A n c)
  x1 : w1.cell? ⟨B, 1, none⟩ = some (.bool re)
  x2 : w1.cell? ⟨B, 2, none⟩ = some (.slice HA m hc)
  z0 : w1.cell? ⟨B + 1, 0, none⟩ = some (.slice none 0 0)
  z1 : w1.cell? ⟨B + 1, 1, none⟩ = some (.bool false)
  z2 : w1.cell? ⟨B + 1, 2, none⟩ = some (.slice none 0 0)
  fz : ∀ o, w1.frozen? ⟨B + 1, o, none⟩ = false
theorem BoxS.calm {w1 w2 : World} {B : Nat} {A : Option Addr} {n c : Nat} {re : Bool} {HA : Option Addr} {m hc' : Nat} (h : BoxS w1 B A n c re HA m hc') (hc : Calm w1 w2) : BoxS w2 B A n c re HA m hc' := by
  have h0 : B < w1.heap.size := by have := h.size; omega
  have h1 : B + 1 < w1.heap.size := by have := h.size; omega
  exact ⟨Nat.le_trans h.size hc.size, hc.at_ h.x0 h0, hc.at_ h.x1 h0, hc.at_ h.x2 h0, hc.at_ h.z0 h1, hc.at_ h.z1 h1, hc.at_ h.z2 h1, fun o => (hc.frozen (p := ⟨B + 1, o, none⟩) h1).trans (h.fz o)⟩

set_option maxHeartbeats 4000000 in
theorem simp_ok (b : Pat) (hs : List Pat) (A : Option Addr) (c : Nat) (HA : Option Addr) (hc n m : Nat) (re : Bool) (w : World) (hb : StrsR w A b.parts) (hbc : b.parts.length ≤ c) (hcc : c ≤ 9223372036854775807) (hh : PatsR w HA hs) (hv : regErr b hs = 0) (hn : b.parts.length = n) (hm : hs.length = m) (hre : b.rest = re) :
    Calls Tryz.prog 15 #[.agg #[.slice A n c, .bool re, .slice HA m hc]] w fun e w' => SimpOk b hs w.heap.size e w' ∧ Calm w w' := by
  obtain ⟨w1, hw1⟩ : ∃ w1, w1 = (w.alloc (.cells #[.slice A n c, .bool re, .slice HA m hc] 27)).alloc (.cells #[.slice none 0 0, .bool false, .slice none 0 0] 27) := ⟨_, rfl⟩
  have hc1 : Calm w w1 := by rw [hw1]; exact ((Calm.refl w).alloc _).alloc _
  have hbox : BoxS w1 w.heap.size A n c re HA m hc := by
    rw [hw1]
    exact ⟨by simp, by simp [go_sem], by simp [go_sem], by simp [go_sem], by simp [go_sem], by simp [go_sem], by simp [go_sem], fun o => by simp [go_sem]⟩
  have hck : Calls Tryz.prog 16 #[.agg #[.slice A n c, .bool re, .slice HA m hc]] w1 fun e w' => e = .returned (.int .i64 0) ∧ Calm w1 w' := by
    have := gcheck_c b hs A c HA hc w1 (hb.calm hc1) hbc hcc (hh.calm hc1)
    rw [hv, hn, hm, hre] at this
    exact this
  obtain ⟨g1, g2, _⟩ := regErr_zero hv
  have KR : Hid (∀ W, Calm w1 W → Calls Tryz.prog 22 #[.agg #[.slice A n c, .bool re], .slice HA m hc] W fun e w' => (∃ A2 c2 HA2 hc2, e = .returned (.agg #[.slice A2 n c2, .bool re, .slice HA2 (redL b hs).length hc2]) ∧ NewS w' W.heap.size A2 c2 b.parts ∧ PatsN w' W.heap.size HA2 hc2 (redL b hs)) ∧ Calm W w') := fun W hW => by
    have := reduce_c b hs A c HA m hc W ⟨(hb.calm hc1).calm hW, hbc, by omega⟩ ((hh.calm hc1).calm hW) hm g1 g2
    unfold RedEnd at this
    rw [hn, hre] at this
    exact this
  have HW := Lib.hid hw1
  have HC := Lib.hid hc1
  have HB := Lib.hid hbox
  have HN := Lib.hid (And.intro hn hre)
  clear hw1 hc1 hbox hb hh hv hn hm hre g1 g2
  go_enter Tryz.func15, Tryz.ntmps15
  go_wp2_with fail
  rw [← HW.out]
  refine hck.mono ?_
  rintro e w2 ⟨rfl, hc2⟩
  have b2 := HB.out.calm hc2
  have x0 := b2.x0
  have x1 := b2.x1
  have x2 := b2.x2
  go_wp2_with fail
  refine (KR.out w2 hc2).mono ?_
  rintro e w3 ⟨⟨A2, c2, HA2, hc2', rfl, hn3, hp3⟩, hc3⟩
  have b3 := HB.out.calm (hc2.trans hc3)
  have z0 := b3.z0
  have z1 := b3.z1
  have z2 := b3.z2
  have f0 := b3.fz 0
  have f1 := b3.fz 1
  have f2 := b3.fz 2
  have hsz : w.heap.size + 1 < w2.heap.size := by have := b2.size; omega
  have hD := fun (u0 u1 u2 : Value) => Lib.hid (show SimpOk b hs w.heap.size (.returned (.tuple #[.agg #[.slice A2 n c2, .bool re, .slice HA2 (redL b hs).length hc2'], .int .i64 0])) (((w3.setCell ⟨w.heap.size + 1, 0, none⟩ u0).setCell ⟨w.heap.size + 1, 1, none⟩ u1).setCell ⟨w.heap.size + 1, 2, none⟩ u2) from
    ⟨A2, c2, HA2, hc2', by rw [HN.out.1, HN.out.2], (((hn3.set (p := ⟨w.heap.size + 1, 0, none⟩) u0 hsz).set (p := ⟨w.heap.size + 1, 1, none⟩) u1 hsz).set (p := ⟨w.heap.size + 1, 2, none⟩) u2 hsz).mono (by omega), (((hp3.set (p := ⟨w.heap.size + 1, 0, none⟩) u0 hsz).set (p := ⟨w.heap.size + 1, 1, none⟩) u1 hsz).set (p := ⟨w.heap.size + 1, 2, none⟩) u2 hsz).mono (by omega)⟩)
  have hcF := fun (u0 u1 u2 : Value) => Lib.hid (show Calm w (((w3.setCell ⟨w.heap.size + 1, 0, none⟩ u0).setCell ⟨w.heap.size + 1, 1, none⟩ u1).setCell ⟨w.heap.size + 1, 2, none⟩ u2) from Below.setCell (Below.setCell (Below.setCell (HC.out.trans (hc2.trans hc3)) (by show w.heap.size ≤ w.heap.size + 1; omega) _) (by show w.heap.size ≤ w.heap.size + 1; omega) _) (by show w.heap.size ≤ w.heap.size + 1; omega) _)
  generalize (redL b hs).length = rl at *
  clear b2 b3 hn3 hp3 hc2 hc3 KR hck hsz x0 x1 x2
  go_wp2
  refine bodyPost_ret (v := .tuple #[.agg #[.slice A2 n c2, .bool re, .slice HA2 rl hc2'], .int .i64 0]) ?_ rfl ⟨(hD _ _ _).out, (hcF _ _ _).out⟩
  rw [results_cell_slot rfl]
  go_simp

set_option maxHeartbeats 2000000 in
theorem simp_bad (b : Pat) (hs : List Pat) (A : Option Addr) (c : Nat) (HA : Option Addr) (hc n m : Nat) (re : Bool) (v : Int) (w : World) (hb : StrsR w A b.parts) (hbc : b.parts.length ≤ c) (hcc : c ≤ 9223372036854775807) (hh : PatsR w HA hs) (hv : regErr b hs = v) (hv0 : v ≠ 0) (hn : b.parts.length = n) (hm : hs.length = m) (hre : b.rest = re) :
    Calls Tryz.prog 15 #[.agg #[.slice A n c, .bool re, .slice HA m hc]] w fun e w' => e = .returned (.tuple #[.agg #[.slice none 0 0, .bool false, .slice none 0 0], .int .i64 v]) ∧ Calm w w' := by
  obtain ⟨w1, hw1⟩ : ∃ w1, w1 = (w.alloc (.cells #[.slice A n c, .bool re, .slice HA m hc] 27)).alloc (.cells #[.slice none 0 0, .bool false, .slice none 0 0] 27) := ⟨_, rfl⟩
  have hc1 : Calm w w1 := by rw [hw1]; exact ((Calm.refl w).alloc _).alloc _
  have hbox : BoxS w1 w.heap.size A n c re HA m hc := by
    rw [hw1]
    exact ⟨by simp, by simp [go_sem], by simp [go_sem], by simp [go_sem], by simp [go_sem], by simp [go_sem], by simp [go_sem], fun o => by simp [go_sem]⟩
  have hck : Calls Tryz.prog 16 #[.agg #[.slice A n c, .bool re, .slice HA m hc]] w1 fun e w' => e = .returned (.int .i64 v) ∧ Calm w1 w' := by
    have := gcheck_c b hs A c HA hc w1 (hb.calm hc1) hbc hcc (hh.calm hc1)
    rw [hv, hn, hm, hre] at this
    exact this
  have hvb : (v != 0) = true := by simpa using hv0
  have HW := Lib.hid hw1
  have HC := Lib.hid hc1
  have HB := Lib.hid hbox
  clear hw1 hc1 hbox hb hh hv hn hm hre hv0
  go_enter Tryz.func15, Tryz.ntmps15
  go_wp2_with fail
  rw [← HW.out]
  refine hck.mono ?_
  rintro e w3 ⟨rfl, hc3⟩
  have b3 := HB.out.calm hc3
  have z0 := b3.z0
  have z1 := b3.z1
  have z2 := b3.z2
  have f0 := b3.fz 0
  have f1 := b3.fz 1
  have f2 := b3.fz 2
  have hcF := fun (u0 u1 u2 : Value) => Lib.hid (show Calm w (((w3.setCell ⟨w.heap.size + 1, 0, none⟩ u0).setCell ⟨w.heap.size + 1, 1, none⟩ u1).setCell ⟨w.heap.size + 1, 2, none⟩ u2) from Below.setCell (Below.setCell (Below.setCell (HC.out.trans hc3) (by show w.heap.size ≤ w.heap.size + 1; omega) _) (by show w.heap.size ≤ w.heap.size + 1; omega) _) (by show w.heap.size ≤ w.heap.size + 1; omega) _)
  clear b3 hc3 hck
  go_wp2
  refine bodyPost_ret (v := .tuple #[.agg #[.slice none 0 0, .bool false, .slice none 0 0], .int .i64 v]) ?_ rfl ⟨rfl, (hcF _ _ _).out⟩
  rw [results_cell_slot rfl]
  go_simp

/-- A slice of patterns that reads as ps. -/
structure PatsV (w : World) (A : Option Addr) (ps : List Pat) : Prop where
  len : ps.length ≤ 1048576
  at_ : 0 < ps.length → ∃ b o, A = some ⟨b, o, none⟩ ∧ b < w.heap.size ∧ ∀ (k : Nat) p, ps[k]? = some p → ∃ Ak ck, w.cell? ⟨b, o + k * 2, none⟩ = some (.slice Ak p.parts.length ck) ∧ w.cell? ⟨b, o + k * 2 + 1, none⟩ = some (.bool p.rest) ∧ StrsU w Ak p.parts
theorem PatsV.calm {w w' : World} {A : Option Addr} {ps : List Pat} (h : PatsV w A ps) (hc : Calm w w') : PatsV w' A ps :=
  ⟨h.len, fun h0 => by
    obtain ⟨b, o, rfl, hb, hk⟩ := h.at_ h0
    refine ⟨b, o, rfl, Nat.lt_of_lt_of_le hb hc.size, fun k p hp => ?_⟩
    obtain ⟨Ak, ck, h1, h2, h3⟩ := hk k p hp
    exact ⟨Ak, ck, (hc.cell (p := ⟨b, o + k * 2, none⟩) hb).trans h1, (hc.cell (p := ⟨b, o + k * 2 + 1, none⟩) hb).trans h2, h3.calm hc⟩⟩
theorem PatsV.get {w : World} {A : Option Addr} {ps : List Pat} (h : PatsV w A ps) {k : Nat} (hk : k < ps.length) : ∃ b o p Ak ck, A = some ⟨b, o, none⟩ ∧ b < w.heap.size ∧ ps[k]? = some p ∧ w.cell? ⟨b, o + k * 2, none⟩ = some (.slice Ak p.parts.length ck) ∧ w.cell? ⟨b, o + k * 2 + 1, none⟩ = some (.bool p.rest) ∧ StrsU w Ak p.parts := by
  obtain ⟨b, o, hA, hb, hc⟩ := h.at_ (by omega)
  obtain ⟨Ak, ck, h1, h2, h3⟩ := hc k _ (List.getElem?_eq_getElem hk)
  exact ⟨b, o, ps[k], Ak, ck, hA, hb, List.getElem?_eq_getElem hk, h1, h2, h3⟩
theorem PatsR.toV {w : World} {A : Option Addr} {ps : List Pat} (h : PatsR w A ps) : PatsV w A ps :=
  ⟨by have := h.len; omega, fun h0 => by
    obtain ⟨b, o, hA, hb, hk⟩ := h.at_ h0
    refine ⟨b, o, hA, hb, fun k p hp => ?_⟩
    obtain ⟨Ak, ck, h1, h2, _, _, h5⟩ := hk k p hp
    exact ⟨Ak, ck, h1, h2, h5.toU⟩⟩
theorem PatsN.toV {w : World} {B : Nat} {A : Option Addr} {c : Nat} {ps : List Pat} (h : PatsN w B A c ps) (hl : ps.length ≤ 1048576) : PatsV w A ps := by
  obtain ⟨l, h1, h2, h3⟩ := h.ex
  refine ⟨hl, fun h0 => ?_⟩
  rcases h2 with ⟨_, h2⟩ | ⟨g, hA, hg, hr⟩
  · rw [h2] at h0
    exact absurd h0 (Nat.lt_irrefl _)
  · refine ⟨g, 0, hA, hr.lt, fun k p hp => ?_⟩
    rw [← h1, List.getElem?_map] at hp
    obtain ⟨x, hx, rfl⟩ := Option.map_eq_some_iff.1 hp
    exact ⟨x.A, x.c, hr.cell k x hx 0 _ rfl, hr.cell k x hx 1 _ rfl, (h3 x (List.mem_of_getElem? hx)).new.u⟩
theorem same_v (p : Pat) (n c c' : Nat) (re : Bool) (A A' : Option Addr) (w : World) (hp : StrsU w A p.parts) (hq : StrsU w A' p.parts) (hn : p.parts.length = n) (hre : p.rest = re) :
    Calls Tryz.prog 29 #[.agg #[.slice A n c, .bool re], .agg #[.slice A' n c', .bool re]] w fun e w' => e = .returned (.bool true) ∧ Calm w w' := by
  subst hn hre
  exact same_c p p true A c A' c' w hp hq (by simp)

set_option maxHeartbeats 4000000 in
/-- A region twice in memory. -/
theorem rsameg_c (b : Pat) (hs : List Pat) (n m : Nat) (re : Bool) (A : Option Addr) (c : Nat) (HA : Option Addr) (hc : Nat) (A' : Option Addr) (c' : Nat) (HA' : Option Addr) (hc' : Nat) (w : World) (hb : StrsU w A b.parts) (hb' : StrsU w A' b.parts) (hh : PatsV w HA hs) (hh' : PatsV w HA' hs) (hn : b.parts.length = n) (hm : hs.length = m) (hre : b.rest = re) :
    Calls Tryz.prog 12 #[.agg #[.slice A n c, .bool re, .slice HA m hc], .agg #[.slice A' n c', .bool re, .slice HA' m hc']] w fun e w' => e = .returned (.bool true) ∧ Calm w w' := by
  have hml := hh.len
  rw [hm] at hml
  obtain ⟨w1, hw1⟩ : ∃ w1, w1 = (w.alloc (.cells #[.slice A n c, .bool re, .slice HA m hc] 27)).alloc (.cells #[.slice A' n c', .bool re, .slice HA' m hc'] 27) := ⟨_, rfl⟩
  have hc1 : Calm w w1 := by rw [hw1]; exact ((Calm.refl w).alloc _).alloc _
  have hs0 : w.heap.size < w1.heap.size := by rw [hw1]; simp; omega
  have hs1 : w.heap.size + 1 < w1.heap.size := by rw [hw1]; simp
  have k2 : w1.cell? ⟨w.heap.size, 2, none⟩ = some (.slice HA m hc) := by rw [hw1]; simp [go_sem]
  have j2 : w1.cell? ⟨w.heap.size + 1, 2, none⟩ = some (.slice HA' m hc') := by rw [hw1]; simp [go_sem]
  have hsm := same_v b n c c' re A A' w1 (hb.calm hc1) (hb'.calm hc1) hn hre
  have HW := Lib.hid hw1
  have HC := Lib.hid hc1
  have HK := Lib.hid (And.intro k2 (And.intro j2 (And.intro hs0 hs1)))
  have HH := Lib.hid (hh.calm hc1)
  have HH' := Lib.hid (hh'.calm hc1)
  have HM := Lib.hid hm
  clear hw1 hc1 hb hb' hh hh' hn hm hre k2 j2 hs0 hs1
  go_enter Tryz.func12, Tryz.ntmps12
  go_wp2_with fail
  rw [← HW.out]
  refine hsm.mono ?_
  rintro e w2 ⟨rfl, hc2⟩
  have k2 := hc2.at_ HK.out.1 HK.out.2.2.1
  have j2 := hc2.at_ HK.out.2.1 HK.out.2.2.2
  have HC2 := Lib.hid hc2
  clear hc2 hsm
  go_wp2_with fail
  go_loopw [25] (fun u wr => ∃ k : Nat, k ≤ m ∧ u = .int .i64 k ∧ Hid (Calm w1 wr)) (fun u _ => m - (intOf u).toNat)
  case atStart => exact ⟨0, Nat.zero_le _, rfl, HC2.out⟩
  case round =>
    obtain ⟨k, hk, rfl, HCr⟩ := hrel
    by_cases hlt : k < m
    · obtain ⟨bb, o, p, Ak, ck, rfl, hbb, hp, c0, c1, hst⟩ := (HH.out.calm HCr.out).get (k := k) (by rw [HM.out]; exact hlt)
      obtain ⟨bb', o', p', Ak', ck', rfl, hbb', hp', d0, d1, hst'⟩ := (HH'.out.calm HCr.out).get (k := k) (by rw [HM.out]; exact hlt)
      obtain rfl : p = p' := by rw [hp] at hp'; exact Option.some.inj hp'
      obtain ⟨wB, hwB⟩ : ∃ wB, wB = wr.alloc (.cells #[.slice Ak p.parts.length ck, .bool p.rest] 24) := ⟨_, rfl⟩
      have hcB : Calm wr wB := by rw [hwB]; exact (Calm.refl wr).alloc _
      have hbB : bb' < wB.heap.size := Nat.lt_of_lt_of_le hbb' hcB.size
      have t0 : wB.cell? ⟨wr.heap.size, 0, none⟩ = some (.slice Ak p.parts.length ck) := by rw [hwB]; simp [go_sem]
      have t1 : wB.cell? ⟨wr.heap.size, 1, none⟩ = some (.bool p.rest) := by rw [hwB]; simp [go_sem]
      have tlt : wr.heap.size < wB.heap.size := by rw [hwB]; simp [go_sem]
      have K1 := Lib.hid (fun q : CalmTo wB => same_v p p.parts.length ck ck' p.rest Ak Ak' q.w ((hst.calm hcB).calm q.h) ((hst'.calm hcB).calm q.h) rfl rfl)
      have hj := (HCr.out.trans hcB).at_ HK.out.2.1 HK.out.2.2.2
      have hjl := Nat.lt_of_lt_of_le HK.out.2.2.2 (HCr.out.trans hcB).size
      have e0 := fun q : CalmTo wB => q.cell t0 tlt
      have e1 := fun q : CalmTo wB => q.cell t1 tlt
      have e2 := fun q : CalmTo wB => q.cell (hcB.at_ d0 hbb') hbB
      have e3 := fun q : CalmTo wB => q.cell (hcB.at_ d1 hbb') hbB
      have e4 := fun q : CalmTo wB => q.cell hj hjl
      have HWB := Lib.hid hwB
      have HCB := Lib.hid (HCr.out.trans hcB)
      clear hwB hcB t0 t1 tlt hst hst' hp hp' d0 d1 hj hjl hbB
      go_wp2_with fail
      rw [← HWB.out]
      refine wp_region_calm (by kernel_rfl) (by kernel_rfl) ?_
      repeat (go_big_quiet_step ((go_at_call 29; exact calmOf (K1.out _))))
      refine wpQuiet_nil ?_
      intro w7 hc7
      have HC7 := Lib.hid (HCB.out.trans hc7)
      clear hc7 e0 e1 e2 e3 e4
      go_wp2
      go_roundw
      case rel => exact ⟨k + 1, by omega, by go_num, HC7.out⟩
      case measure => simp [intOf]; omega
    · obtain rfl : k = m := by omega
      go_wp2
      go_ret
      exact ⟨rfl, HC.out.trans HCr.out⟩
end Go.Proofs.YtdndfkoklhfffaaGreatDoor
