/- Walks: the reference's Minus; the law RegionMinuses. -/
import Derived.Test.YtdndfkoklhfffaaGreatDoorRSimpW
import Derived.Test.YtdndfkoklhfffaaGreatDoorMinus
set_option linter.unusedVariables false
set_option linter.unusedSimpArgs false
namespace Go.Proofs.YtdndfkoklhfffaaGreatDoor
open Go Go.RowKit Sy

theorem rlenG_w (g : Reg) (v : Nat) (n m : Nat) (re : Bool) (A : Option Addr) (c : Nat) (HA : Option Addr) (hc : Nat) (w : World) (h : RegA w A c HA g.b g.hs) (hg : patErr g.b = 0) (hgs : ∀ p ∈ g.hs, patErr p = 0) (hv : gLen g = v) (hn : g.b.parts.length = n) (hm : g.hs.length = m) (hre : g.b.rest = re) :
    Calls Tryz.prog 28 #[.agg #[.slice A n c, .bool re, .slice HA m hc]] w fun e w' => e = .returned (.int .i64 v) ∧ Calm w w' := by
  have := rlen_c g.b g.hs A c HA hc w h.base h.holes (allOk_of hg) (fun p hp => allOk_of (hgs p hp))
  unfold gLen at hv
  subst hv hn hm hre
  exact this
/-- A region whose base is old or the call's own; its holes are the call's own. -/
structure OkO (w3 wr : World) (z : NewG) : Prop where
  base : PatA w3 z.A z.c z.g.b ∨ SmallN wr w3.heap.size ⟨z.A, z.c, z.g.b⟩
  holes : PatsN wr w3.heap.size z.HA z.hc z.g.hs
theorem OkO.calm {w3 wr w2 : World} {z : NewG} (h : OkO w3 wr z) (hc : Calm wr w2) : OkO w3 w2 z := ⟨h.base.imp id fun h => h.calm hc, h.holes.calm hc⟩
theorem OkO.own {w3 w w' : World} {z : NewG} (h : OkO w3 w z) {B0 n K : Nat} {v : Value} {T : TypeId} {xs : List Value} (hT : 24 ≠ T) (hS : 9 ≠ T) (hown : w.ownsRow B0 T K v n xs) (hg : w.grownBy w' v.ownBlock) : OkO w3 w' z :=
  ⟨h.base.imp id fun h => h.own hS hown hg, h.holes.own hT hS hown hg⟩
theorem OkO.a {w3 wr : World} {z : NewG} (h : OkO w3 wr z) (hc : Calm w3 wr) (hl : z.g.hs.length ≤ 16384) : RegA wr z.A z.c z.HA z.g.b z.g.hs := by
  rcases h.base with h1 | h1
  · have h2 := h1.calm hc
    exact ⟨h2.r, h2.room, h2.cap, h.holes.reads hl⟩
  · exact ⟨h1.a.r, h1.a.room, h1.a.cap, h.holes.reads hl⟩
structure PcO (w3 wr : World) (x y : Reg) (v : Value) (l : List NewG) (k : Nat) : Prop where
  own : OwnX encG 3 27 w3 wr v l
  is : l.map (·.g) = piecesTo x y k
  each : ∀ z ∈ l, OkO w3 wr z
theorem PcO.calm {w3 wr w2 : World} {x y : Reg} {v : Value} {l : List NewG} {k : Nat} (h : PcO w3 wr x y v l k) (hc : Calm wr w2) : PcO w3 w2 x y v l k := ⟨h.own.to hc, h.is, fun z hz => (h.each z hz).calm hc⟩
theorem PcO.len {w3 wr : World} {x y : Reg} {v : Value} {l : List NewG} {k : Nat} (h : PcO w3 wr x y v l k) : l.length ≤ k + 1 := by
  have h1 := congrArg List.length h.is
  rw [List.length_map] at h1
  have := piecesTo_len x y k
  omega
theorem PcO.miss {w3 wr w2 : World} {x y : Reg} {v : Value} {l : List NewG} {k : Nat} {p : Pat} (h : PcO w3 wr x y v l k) (hp : (cuts y)[k]? = some p) (hm : meetP x.b p = none) (hc : Calm wr w2) : PcO w3 w2 x y v l (k + 1) := by
  refine ⟨h.own.to hc, ?_, fun z hz => (h.each z hz).calm hc⟩
  rw [piecesTo_succ, h.is]
  unfold pieceAt
  rw [hp]
  simp [hm]
theorem PcO.hit {w3 wr w2 w4 : World} {x y : Reg} {v v' : Value} {l : List NewG} {k : Nat} {p m : Pat} {z : NewG} (h : PcO w3 wr x y v l k) (hp : (cuts y)[k]? = some p) (hm : meetP x.b p = some m) (hz : z.g = ⟨m, redL m (x.hs ++ (cuts y).take k)⟩) (hc : Calm wr w2) (hown : OwnX encG 3 27 w3 w4 v' (l ++ [z])) (ho : OkO w3 w2 z) (hg : w2.grownBy w4 v.ownBlock) : PcO w3 w4 x y v' (l ++ [z]) (k + 1) := by
  refine ⟨hown, ?_, fun u hu => ?_⟩
  · rw [piecesTo_succ, List.map_append, h.is]
    congr 1
    unfold pieceAt
    rw [hp]
    simp [hm, hz]
  · rcases List.mem_append.1 hu with hu | hu
    · exact ((h.each u hu).calm hc).own (by decide) (by decide) (h.own.to hc).own hg
    · rw [List.mem_singleton.1 hu]
      exact ho.own (by decide) (by decide) (h.own.to hc).own hg
/-- The box of the second region, turned. -/
theorem box2_put {w3 : World} {B : Nat} {A : Option Addr} {n c : Nat} {re : Bool} {HA : Option Addr} {m hc : Nat} {A' : Option Addr} {n' c' : Nat} {re' : Bool} {HA' : Option Addr} {m' hc' : Nat} (h : Box2 w3 B A n c re HA m hc A' n' c' re' HA' m' hc') (HA7 : Option Addr) (cn hc7 : Nat) :
    Box2 (((w3.setCell ⟨B + 1, 0, none⟩ (.slice A' n' c')).setCell ⟨B + 1, 1, none⟩ (.bool re')).setCell ⟨B + 1, 2, none⟩ (.slice HA7 cn hc7)) B A n c re HA m hc A' n' c' re' HA7 cn hc7 := by
  refine ⟨by simpa using h.size, ?_, ?_, ?_, ?_, ?_, ?_⟩
  · rw [World.cell?_setCell_other _ _ _ _ (by simp), World.cell?_setCell_other _ _ _ _ (by simp), World.cell?_setCell_other _ _ _ _ (by simp)]; exact h.x0
  · rw [World.cell?_setCell_other _ _ _ _ (by simp), World.cell?_setCell_other _ _ _ _ (by simp), World.cell?_setCell_other _ _ _ _ (by simp)]; exact h.x1
  · rw [World.cell?_setCell_other _ _ _ _ (by simp), World.cell?_setCell_other _ _ _ _ (by simp), World.cell?_setCell_other _ _ _ _ (by simp)]; exact h.x2
  · rw [World.cell?_setCell_other _ _ _ _ (by simp), World.cell?_setCell_other _ _ _ _ (by simp)]
    exact World.cell?_setCell_same' _ _ _ (by rw [h.y0]; rfl)
  · rw [World.cell?_setCell_other _ _ _ _ (by simp)]
    exact World.cell?_setCell_same' _ _ _ (by rw [World.cell?_setCell_other _ _ _ _ (by simp), h.y1]; rfl)
  · exact World.cell?_setCell_same' _ _ _ (by rw [World.cell?_setCell_other _ _ _ _ (by simp), World.cell?_setCell_other _ _ _ _ (by simp), h.y2]; rfl)
set_option maxRecDepth 100000 in
set_option maxHeartbeats 16000000 in
theorem rminus_c (x y : Reg) (n m n' m' : Nat) (re re' : Bool) (A : Option Addr) (c : Nat) (HA : Option Addr) (hc : Nat) (A' : Option Addr) (c' : Nat) (HA' : Option Addr) (hc' : Nat) (w : World) (h : RegA w A c HA x.b x.hs) (h' : RegA w A' c' HA' y.b y.hs)
    (hn : x.b.parts.length = n) (hm : x.hs.length = m) (hre : x.b.rest = re) (hn' : y.b.parts.length = n') (hm' : y.hs.length = m') (hre' : y.b.rest = re') (hl : m + m' ≤ 1000) (hmc : m ≤ hc) (hmc63 : hc ≤ 9223372036854775807) :
    Calls Tryz.prog 14 #[.agg #[.slice A n c, .bool re, .slice HA m hc], .agg #[.slice A' n' c', .bool re', .slice HA' m' hc']] w fun e w' => MinusEnd x y e w' ∧ Calm w w' := by
  obtain ⟨w1, hw1⟩ : ∃ w1, w1 = (w.alloc (.cells #[.slice A n c, .bool re, .slice HA m hc] 27)).alloc (.cells #[.slice A' n' c', .bool re', .slice HA' m' hc'] 27) := ⟨_, rfl⟩
  have hc1 : Calm w w1 := by rw [hw1]; exact ((Calm.refl w).alloc _).alloc _
  have hbox : Box2 w1 w.heap.size A n c re HA m hc A' n' c' re' HA' m' hc' := by rw [hw1]; exact box2_new w A n c re HA m hc A' n' c' re' HA' m' hc'
  obtain ⟨v, hv⟩ : ∃ v, gErr x = v := ⟨_, rfl⟩
  obtain ⟨v', hv'⟩ : ∃ v, gErr y = v := ⟨_, rfl⟩
  have hfz1 : ∀ o, w1.frozen? ⟨w.heap.size + 1, o, none⟩ = false := fun o => by rw [hw1]; simp [go_sem]
  have rgc : ∀ (g : Reg) (v : Int) (n m : Nat) (re : Bool) (A : Option Addr) (c : Nat) (HA : Option Addr) (hc : Nat) (W : World), RegA W A c HA g.b g.hs → gErr g = v → g.b.parts.length = n → g.hs.length = m → g.b.rest = re → Calls Tryz.prog 25 #[.agg #[.slice A n c, .bool re, .slice HA m hc]] W fun e w' => e = .returned (.int .i64 v) ∧ Calm W w' := fun g v n m re A c HA hc W h hv hn hm hre => by
    have := rgcheck_c g.b g.hs A c HA hc W h.base h.room h.cap h.holes
    unfold gErr at hv
    rw [hv, hn, hm, hre] at this
    exact this
  have K0 := rgc x v n m re A c HA hc w1 (h.calm hc1) hv hn hm hre
  have K1 := Lib.hid (fun (W : World) (hW : Calm w1 W) => rgc y v' n' m' re' A' c' HA' hc' W ((h'.calm hc1).calm hW) hv' hn' hm' hre')
  have HX := Lib.hid h
  have HY := Lib.hid h'
  have HN := Lib.hid (And.intro hn (And.intro hm hre))
  have HN' := Lib.hid (And.intro hn' (And.intro hm' hre'))
  have HW := Lib.hid hw1
  have HC := Lib.hid hc1
  have HB := Lib.hid hbox
  have HV := Lib.hid (And.intro hv hv')
  have HFz : Hid (∀ W, Calm w1 W → ∀ o, W.frozen? ⟨w.heap.size + 1, o, none⟩ = false) := fun W hW o => (hW.frozen (p := ⟨w.heap.size + 1, o, none⟩) (by have := hbox.size; show w.heap.size + 1 < w1.heap.size; omega)).trans (hfz1 o)
  clear hw1 hc1 hbox h h' hn hm hre hn' hm' hre' hv hv' rgc hfz1
  by_cases h0 : v = 0 ∧ v' = 0
  · obtain ⟨rfl, rfl⟩ := h0
    have gx := HV.out.1
    have gy := HV.out.2
    obtain ⟨gx1, gx2, -⟩ := gErr_zero gx
    obtain ⟨gy1, gy2, -⟩ := gErr_zero gy
    have HBo := Lib.hid (bothErr_of gx gy)
    obtain ⟨cn, hcn⟩ : ∃ cn, (cuts y).length = cn := ⟨_, rfl⟩
    have hcnm : cn ≤ m' := by rw [← hcn, ← HN'.out.2.1]; exact redL_len _ _
    obtain ⟨pm, hpm⟩ : ∃ pm, (redL x.b (x.hs ++ [y.b])).length = pm := ⟨_, rfl⟩
    obtain ⟨lx, hlx, hXl⟩ := HX.out.holes.places
    have hlxn : lx.length = m := by rw [← HN.out.2.1, ← hlx, List.length_map]
    have KR0 : Hid (∀ W, Calm w W → Calls Tryz.prog 27 #[.agg #[.slice A' n' c', .bool re'], .slice HA' m' hc'] W fun e w' => (∃ HA3 hc3, e = .returned (.agg #[.slice A' n' c', .bool re', .slice HA3 cn hc3]) ∧ PatsN w' W.heap.size HA3 hc3 (cuts y)) ∧ Calm W w') := fun W hW => by
      have hy := HY.out.calm hW
      have := rsimp_c y.b y.hs A' c' HA' m' hc' W ⟨hy.base, hy.room, hy.cap⟩ hy.holes HN'.out.2.1 gy1 gy2
      unfold RSEnd at this
      rw [HN'.out.1, HN'.out.2.2, show (redL y.b y.hs).length = cn from hcn] at this
      exact this
    have KR1 : Hid (∀ AC cC W, Calm w W → PatsR W AC (x.hs ++ [y.b]) → Calls Tryz.prog 27 #[.agg #[.slice A n c, .bool re], .slice AC (m + 1) cC] W fun e w' => (∃ HA3 hc3, e = .returned (.agg #[.slice A n c, .bool re, .slice HA3 pm hc3]) ∧ PatsN w' W.heap.size HA3 hc3 (redL x.b (x.hs ++ [y.b]))) ∧ Calm W w') := fun AC cC W hW h1 => by
      have hx := HX.out.calm hW
      have := rsimp_c x.b (x.hs ++ [y.b]) A c AC (m + 1) cC W ⟨hx.base, hx.room, hx.cap⟩ h1 (by rw [List.length_append, HN.out.2.1]; rfl) gx1 (fun p hp => (List.mem_append.1 hp).elim (gx2 p) (fun h => by rw [List.mem_singleton.1 h]; exact gy1))
      unfold RSEnd at this
      rw [HN.out.1, HN.out.2.2, hpm] at this
      exact this
    have HJoin0 : ∀ W0, Calm w W0 → ∀ W AA nn cc, OwnX encP 2 24 W0 W (.slice AA nn cc) (lx ++ [⟨A', c', y.b⟩]) → PatsR W AA (x.hs ++ [y.b]) := fun W0 h0 W AA nn cc hown => by
      have hy := HY.out.calm (h0.trans hown.calm)
      have := own_reads hown (fun z hz => by
        rcases List.mem_append.1 hz with h | h
        · exact (hXl.each z h).calm (h0.trans hown.calm)
        · rw [List.mem_singleton.1 h]
          exact ⟨hy.base, hy.room, hy.cap⟩) (by rw [List.length_append, hlxn]; simp; omega)
      rw [List.map_append, hlx] at this
      exact this
    have HJ0 := Lib.hid HJoin0
    have HCn := Lib.hid hcn
    have HGx := Lib.hid (And.intro gx (And.intro gy (And.intro gx1 (And.intro gx2 (And.intro gy1 gy2)))))
    have HLx := Lib.hid (And.intro hlxn (And.intro hlx hXl))
    have HPm := Lib.hid hpm
    have HNy : Hid (∀ W, Calm w W → PatA W A' c' y.b) := fun W hW => by
      have := HY.out.calm hW
      exact ⟨this.base, this.room, this.cap⟩
    clear gx gy gx1 gx2 gy1 gy2 hcn hpm hlx hXl hlxn HJoin0
    go_enter Tryz.func14, Tryz.ntmps14
    go_wp2_with fail
    rw [← HW.out]
    refine K0.mono ?_
    rintro e w2 ⟨rfl, hc2⟩
    have b2 := HB.out.calm hc2
    have y0 := b2.y0
    have y1 := b2.y1
    have y2 := b2.y2
    clear b2
    go_wp2_with fail
    refine (K1.out w2 hc2).mono ?_
    rintro e w2' ⟨rfl, hc2'⟩
    clear y0 y1 y2
    have b2 := HB.out.calm (hc2.trans hc2')
    have y0 := b2.y0
    have y1 := b2.y1
    have y2 := b2.y2
    clear b2
    go_wp2_with fail
    refine (KR0.out w2' (HC.out.trans (hc2.trans hc2'))).mono ?_
    rintro e w30 ⟨⟨HA7, hc7, rfl, hp30⟩, hc30⟩
    clear y0 y1 y2
    have HC30 := Lib.hid ((hc2.trans hc2').trans hc30)
    have b3 := HB.out.calm HC30.out
    have x0 := b3.x0
    have x1 := b3.x1
    have x2 := b3.x2
    have y0 := b3.y0
    have y1 := b3.y1
    have y2 := b3.y2
    have f0 := HFz.out _ HC30.out 0
    have f1 := HFz.out _ HC30.out 1
    have f2 := HFz.out _ HC30.out 2
    have hB2 : w.heap.size + 1 < w2'.heap.size := by have := (HB.out.calm (hc2.trans hc2')).size; omega
    have HP30 := Lib.hid hp30
    have HB30 := Lib.hid (And.intro b3 hB2)
    clear b3 hp30 hc2 hc2' hc30 hB2
    go_upto_region 8 with (fail)
    clear x0 x1 x2 y0 y1 y2 f0 f1 f2
    obtain ⟨w3, hw3⟩ : ∃ w3, w3 = ((w30.setCell ⟨w.heap.size + 1, 0, none⟩ (.slice A' n' c')).setCell ⟨w.heap.size + 1, 1, none⟩ (.bool re')).setCell ⟨w.heap.size + 1, 2, none⟩ (.slice HA7 cn hc7) := ⟨_, rfl⟩
    rw [← hw3]
    have hcw3 : Calm w w3 := by rw [hw3]; exact calm3 (o := 0) (HC.out.trans HC30.out) (Nat.le_succ _) _ _ _
    have hp3 : PatsN w3 w2'.heap.size HA7 hc7 (cuts y) := by
      rw [hw3]
      exact ((HP30.out.set (p := ⟨w.heap.size + 1, 0, none⟩) _ HB30.out.2).set (p := ⟨w.heap.size + 1, 1, none⟩) _ HB30.out.2).set (p := ⟨w.heap.size + 1, 2, none⟩) _ HB30.out.2
    have hbx : Box2 w3 w.heap.size A n c re HA m hc A' n' c' re' HA7 cn hc7 := by rw [hw3]; exact box2_put HB30.out.1 HA7 cn hc7
    obtain ⟨lc, hlc, hXc⟩ := hp3.places
    have hlcn : lc.length = cn := by rw [← HCn.out, ← hlc, List.length_map]
    have hlt0 : w.heap.size < w3.heap.size := by have := hbx.size; omega
    have hlt1 : w.heap.size + 1 < w3.heap.size := by have := hbx.size; omega
    have HSX : Hid (∀ W, Calm w3 W → W.cell? ⟨w.heap.size, 0, none⟩ = some (.slice A n c) ∧ W.cell? ⟨w.heap.size, 1, none⟩ = some (.bool re) ∧ W.cell? ⟨w.heap.size, 2, none⟩ = some (.slice HA m hc) ∧ W.cell? ⟨w.heap.size + 1, 0, none⟩ = some (.slice A' n' c') ∧ W.cell? ⟨w.heap.size + 1, 1, none⟩ = some (.bool re')) := fun W hW =>
      ⟨Calm.at_ hW hbx.x0 hlt0, Calm.at_ hW hbx.x1 hlt0, Calm.at_ hW hbx.x2 hlt0, Calm.at_ hW hbx.y0 hlt1, Calm.at_ hW hbx.y1 hlt1⟩
    have HB3 := Lib.hid hbx
    have HC3 := Lib.hid hcw3
    have HJoin := Lib.hid (HJ0.out w3 hcw3)
    have HLc := Lib.hid (And.intro hlcn (And.intro hlc hXc))
    have HRoom := Lib.hid (And.intro hp3.room hp3.cap)
    clear hw3 hcw3 hp3 hlcn hlc hXc hbx hlt0 hlt1 K0 K1 KR0 HB30 HP30 HC30
    go_cut [8] (fun s wx => ∃ A8 c8 z, s = .slice A8 1 c8 ∧ Hid (PcO w3 wx x y (.slice A8 1 c8) [z] 0))
    case first =>
      go_region_held3 (fun W => W.cell? ⟨w.heap.size, 0, none⟩ = some (.slice A n c) ∧ W.cell? ⟨w.heap.size, 1, none⟩ = some (.bool re) ∧ W.cell? ⟨w.heap.size, 2, none⟩ = some (.slice HA m hc) ∧ W.cell? ⟨w.heap.size + 1, 0, none⟩ = some (.slice A' n' c') ∧ W.cell? ⟨w.heap.size + 1, 1, none⟩ = some (.bool re'))
        (first
          | exact HSX.out _ (Below.drew (Calm.refl _))
          | exact HSX.out _ (Below.drew ((Calm.refl _).alloc _))
          | exact HSX.out _ hcz
          | exact HSX.out _ (hcz.alloc _)
          | exact HSX.out _ hcy
          | exact HSX.out _ (hcy.alloc _)
          | exact HSX.out _ hcx
          | exact HSX.out _ (hcx.alloc _)
          | go_keep)
        (first
          | (refine step_append_ps rfl _ (.tmp 34) rfl _ (.slice none 0 0) [] lx (by simp [Act.eval, Act.put]) (OwnX.nil (Calm.refl _)) HA m hc (by simp [Act.eval, Act.put]) HLx.out.1 (HLx.out.2.2.read.calm (HC3.out.trans (by first | exact Below.drew (Calm.refl _) | exact Below.drew ((Calm.refl _).alloc _)))) (by simp; omega) ?_; intro v6 w6 hown6 hgr6; rw [List.nil_append] at hown6; obtain ⟨A6, c6, hv6⟩ := hown6.len_shape; rw [HLx.out.1] at hv6; subst hv6; (first | have hRd : ReadX encP 2 w6 (some ⟨w3.heap.size, 0, none⟩) [⟨A', c', y.b⟩] := ((read_newM ⟨A', c', y.b⟩ HN'.out.1 HN'.out.2.2 rfl).calm (Below.drew (Calm.refl _))).calm hown6.calm | skip); have hown6' : OwnX encP 2 24 w3 w6 (.slice A6 m c6) lx := hown6.base (by first | exact Below.drew (Calm.refl _) | exact Below.drew ((Calm.refl _).alloc _)); have hcx : Calm w3 w6 := hown6'.calm)
          | (refine step_append_ps rfl (.tmp 35) (.tmp 38) rfl w3 (.slice A6 m c6) lx [⟨A', c', y.b⟩] (by simp [Act.eval, Act.put]) (hown6'.to (by first | exact Calm.refl _ | exact (Calm.refl _).alloc _)) _ 1 1 rfl rfl (by first | exact hRd | exact read_newM ⟨A', c', y.b⟩ HN'.out.1 HN'.out.2.2 rfl) (by rw [HLx.out.1]; omega) ?_; intro v8 w8 hown8 hgr8; obtain ⟨A8, c8, hv8⟩ := hown8.len_shape; rw [List.length_append, HLx.out.1, List.length_singleton] at hv8; subst hv8; have hcy : Calm w3 w8 := hown8.calm; have hP8 := HJoin.out w8 _ _ _ hown8)
          | (go_at_call 27; refine (KR1.out A8 c8 w8 (HC3.out.trans hcy) hP8).mono ?_; rintro e w9 ⟨⟨HA9, hc9', rfl, hp9⟩, hc9⟩; have hcz : Calm w3 w9 := hcy.trans hc9))
      all_goals
        have hP : Hid (PcO w3 (w9.alloc (.cells #[.slice A n c, .bool re, .slice HA9 pm hc9'] 27)) x y (.slice (some ⟨w9.heap.size, 0, none⟩) 1 1) [⟨A, c, HA9, hc9', piece0 x y⟩] 0) := by
          refine ⟨(own_litN ⟨A, c, HA9, hc9', piece0 x y⟩ HN.out.1 HN.out.2.2 HPm.out).base hcz, rfl, fun z hz => ?_⟩
          rw [List.mem_singleton.1 hz]
          exact OkO.calm ⟨.inl (by have hx := HX.out.calm HC3.out; exact ⟨hx.base, hx.room, hx.cap⟩), hp9.mono hcy.size⟩ ((Calm.refl w9).alloc _)
        clear hp9 hc9 hcz hP8 hown8 hgr8 hcy hcx hown6' hown6
        go_wp2_with fail
        go_meet
        case rel => exact ⟨_, _, _, rfl, hP⟩
    case rest =>
      obtain ⟨A8, c8, z0, rfl, HP0⟩ := hcut
      have HPl : Hid ([z0].length = 1) := rfl
      have bq := HB3.out.calm HP0.out.own.calm
      have y2 := bq.y2
      clear bq
      go_wp2_with fail
      clear y2
      go_loopw [8, 45] (fun s q wr => ∃ (k : Nat) (l : List NewG) (A8 : Option Addr) (L c8 : Nat), k ≤ cn ∧ q = .int .i64 k ∧ s = .slice A8 L c8 ∧ Hid (l.length = L) ∧ Hid (PcO w3 wr x y (.slice A8 L c8) l k)) (fun _ q _ => cn - (intOf q).toNat)
      case atStart => exact ⟨0, [z0], A8, 1, c8, Nat.zero_le _, rfl, rfl, HPl, HP0⟩
      case round =>
        clear HP0 HPl
        obtain ⟨k, l, A8, L, c8, hk, rfl, rfl, HLl, HPk⟩ := hrel
        have HCk : Hid (Calm w3 wr) := HPk.out.own.calm
        have hLk : L ≤ k + 1 := by rw [← HLl.out]; exact HPk.out.len
        by_cases hlt : k < cn
        · obtain ⟨px, hpx⟩ : ∃ px, lc[k]? = some px := ⟨_, List.getElem?_eq_getElem (by rw [HLc.out.1]; exact hlt)⟩
          have hcut : (cuts y)[k]? = some px.p := by rw [← HLc.out.2.1, List.getElem?_map, hpx]; rfl
          have gp : patErr px.p = 0 := cuts_good px.p (List.mem_of_getElem? hcut)
          obtain ⟨b0, o0, rfl, hb0, hk0⟩ := HLc.out.2.2.read (fun e => by rw [e] at hpx; simp at hpx)
          have q1 := Calm.at_ HCk.out (hk0 k px hpx 0 _ rfl) hb0
          have q2 := Calm.at_ HCk.out (hk0 k px hpx 1 _ rfl) hb0
          rw [Nat.add_zero] at q1
          have hb1 := Nat.lt_of_lt_of_le hb0 HCk.out.size
          have hk7 : k ≤ hc7 := by
            have := HRoom.out.1
            rw [HCn.out] at this
            omega
          have hc763 := HRoom.out.2
          obtain ⟨wB, hwB⟩ : ∃ wB, wB = wr.alloc (.cells #[.slice px.A px.p.parts.length px.c, .bool px.p.rest] 24) := ⟨_, rfl⟩
          have hcB : Calm wr wB := by rw [hwB]; exact (Calm.refl wr).alloc _
          have hPA : PatA wB px.A px.c px.p := (HLc.out.2.2.each px (List.mem_of_getElem? hpx)).calm (HCk.out.trans hcB)
          have hx := HX.out.calm (HC3.out.trans (HCk.out.trans hcB))
          have hBA : PatA wB A c x.b := ⟨hx.base, hx.room, hx.cap⟩
          have bB := HB3.out.calm HCk.out
          have x0 := bB.x0
          have x1 := bB.x1
          have hlt0 : w.heap.size < wr.heap.size := by have := bB.size; omega
          have HWB := Lib.hid hwB
          have HCB := Lib.hid hcB
          have HCut := Lib.hid hcut
          rcases hmt : meetP x.b px.p with _ | mm
          · have hcall := rmeet_no x.b px.p A px.A c px.c wB hBA hPA HGx.out.2.2.1 gp hmt
            rw [HN.out.1, HN.out.2.2] at hcall
            have HM := Lib.hid hmt
            clear hwB hcB hPA hBA hpx hcut gp hmt hk0 hx bB hb0
            go_wp2_with (go_at_call 26; rw [← HWB.out]; refine hcall.mono ?_; rintro e w5 ⟨rfl, hc5⟩)
            go_roundw
            case rel => exact ⟨k + 1, l, A8, L, c8, by omega, by go_num, rfl, HLl, HPk.out.miss HCut.out HM.out (HCB.out.trans (hc5.trans ((Calm.refl _).alloc _)))⟩
            case measure => simp [intOf]; omega
          · have hcall := rmeet_yes x.b px.p mm A px.A c px.c wB hBA hPA HGx.out.2.2.1 gp hmt
            rw [HN.out.1, HN.out.2.2] at hcall
            obtain ⟨gn, hgn⟩ : ∃ gn, mm.parts.length = gn := ⟨_, rfl⟩
            obtain ⟨gr, hgr⟩ : ∃ gr, mm.rest = gr := ⟨_, rfl⟩
            obtain ⟨gm, hgm⟩ : ∃ gm, (redL mm (x.hs ++ (cuts y).take k)).length = gm := ⟨_, rfl⟩
            obtain ⟨Nk, hNk⟩ : ∃ Nk, (x.hs ++ (cuts y).take k).length = Nk := ⟨_, rfl⟩
            rw [hgn, hgr] at hcall
            have KRk : Hid (∀ A2 c2 AC cC W, PatA W A2 c2 mm → PatsR W AC (x.hs ++ (cuts y).take k) → Calls Tryz.prog 27 #[.agg #[.slice A2 gn c2, .bool gr], .slice AC Nk cC] W fun e w' => (∃ HA3 hc3, e = .returned (.agg #[.slice A2 gn c2, .bool gr, .slice HA3 gm hc3]) ∧ PatsN w' W.heap.size HA3 hc3 (redL mm (x.hs ++ (cuts y).take k))) ∧ Calm W w') := fun A2 c2 AC cC W h1 h2 => by
              have := rsimp_c mm (x.hs ++ (cuts y).take k) A2 c2 AC Nk cC W h1 h2 hNk (meetP_some hmt).2.2.2 (fun p hp => (List.mem_append.1 hp).elim (HGx.out.2.2.2.1 p) (fun h => cuts_good p (List.mem_of_mem_take h)))
              unfold RSEnd at this
              rw [hgn, hgr, hgm] at this
              exact this
            have HNk := Lib.hid hNk
            have HTk : Hid ((lc.take k).length = k ∧ m + k = Nk) := by
              have h1 : (lc.take k).length = k := by rw [List.length_take, HLc.out.1]; omega
              refine ⟨h1, ?_⟩
              rw [← hNk, List.length_append, HN.out.2.1, List.length_take, HCn.out]
              omega
            have HJk : Hid (∀ W0 W AA nn cc, Calm w3 W0 → OwnX encP 2 24 W0 W (.slice AA nn cc) (lx ++ lc.take k) → PatsR W AA (x.hs ++ (cuts y).take k)) := fun W0 W AA nn cc h0 hown => by
              have := own_reads hown (fun z hz => by
                rcases List.mem_append.1 hz with h | h
                · exact (HLx.out.2.2.each z h).calm (HC3.out.trans (h0.trans hown.calm))
                · exact (HLc.out.2.2.each z (List.mem_of_mem_take h)).calm (h0.trans hown.calm)) (by rw [List.length_append, HLx.out.1, HTk.out.1]; omega)
              rw [List.map_append, HLx.out.2.1, List.map_take, HLc.out.2.1] at this
              exact this
            have HM := Lib.hid (And.intro hmt (And.intro hgn (And.intro hgr hgm)))
            clear hwB hcB hPA hBA hpx hcut gp hmt hk0 hx bB hb0 hgn hgr hgm hNk
            go_wp2_with (go_at_call 26; rw [← HWB.out]; refine hcall.mono ?_; rintro e w5 ⟨⟨A2, c2, rfl, hs5⟩, hc5⟩)
            obtain ⟨wC, hwC⟩ : ∃ wC, wC = w5.alloc (.cells #[.slice A2 gn c2, .bool gr] 24) := ⟨_, rfl⟩
            rw [← hwC]
            have hcC : Calm w5 wC := by rw [hwC]; exact (Calm.refl w5).alloc _
            have t0 : wC.cell? ⟨w5.heap.size, 0, none⟩ = some (.slice A2 gn c2) := by rw [hwC]; simp [go_sem]
            have t1 : wC.cell? ⟨w5.heap.size, 1, none⟩ = some (.bool gr) := by rw [hwC]; simp [go_sem]
            have tlt : w5.heap.size < wC.heap.size := by rw [hwC]; simp [go_sem]
            have HCC := Lib.hid (HCB.out.trans (hc5.trans hcC))
            have HSm : Hid (SmallN wC w3.heap.size ⟨A2, c2, mm⟩) := (hs5.calm hcC).mono (HCk.out.trans HCB.out).size
            have bC := HB3.out.calm (HCk.out.trans HCC.out)
            have HSX : Hid (∀ W, Calm wC W → W.cell? ⟨w5.heap.size, 0, none⟩ = some (.slice A2 gn c2) ∧ W.cell? ⟨w5.heap.size, 1, none⟩ = some (.bool gr) ∧ W.cell? ⟨w.heap.size, 2, none⟩ = some (.slice HA m hc) ∧ W.cell? ⟨w.heap.size + 1, 2, none⟩ = some (.slice (some ⟨b0, o0, none⟩) cn hc7)) := fun W hW =>
              ⟨Calm.at_ hW t0 tlt, Calm.at_ hW t1 tlt, Calm.at_ hW bC.x2 (by have := bC.size; omega), Calm.at_ hW bC.y2 (by have := bC.size; omega)⟩
            have hfar5 : some w5.heap.size ≠ (Value.slice A8 L c8).ownBlock := fun e => by
              have h1 := HPk.out.own.blk_lt e
              have h2 := (HCB.out.trans hc5).size
              omega
            have hfar0 : some w.heap.size ≠ (Value.slice A8 L c8).ownBlock := HPk.out.own.far (by have := HB3.out.size; omega)
            have hfar1 : some (w.heap.size + 1) ≠ (Value.slice A8 L c8).ownBlock := HPk.out.own.far (by have := HB3.out.size; omega)
            have HSF : Hid (∀ W W', Calm wC W → W.grownBy W' (Value.slice A8 L c8).ownBlock → W'.cell? ⟨w5.heap.size, 0, none⟩ = some (.slice A2 gn c2) ∧ W'.cell? ⟨w5.heap.size, 1, none⟩ = some (.bool gr) ∧ W'.cell? ⟨w.heap.size, 2, none⟩ = some (.slice HA m hc) ∧ W'.cell? ⟨w.heap.size + 1, 2, none⟩ = some (.slice (some ⟨b0, o0, none⟩) cn hc7)) := fun W W' hW hg =>
              ⟨hg.cell (HSX.out W hW).1 hfar5, hg.cell (HSX.out W hW).2.1 hfar5, hg.cell (HSX.out W hW).2.2.1 hfar0, hg.cell (HSX.out W hW).2.2.2 hfar1⟩
            clear hwC hcC hs5 hc5 t0 t1 tlt bC x0 x1 q1 q2 hlt0 hfar5 hfar0 hfar1
            go_wp2_with fail
            go_region_held3 (fun W => W.cell? ⟨w5.heap.size, 0, none⟩ = some (.slice A2 gn c2) ∧ W.cell? ⟨w5.heap.size, 1, none⟩ = some (.bool gr) ∧ W.cell? ⟨w.heap.size, 2, none⟩ = some (.slice HA m hc) ∧ W.cell? ⟨w.heap.size + 1, 2, none⟩ = some (.slice (some ⟨b0, o0, none⟩) cn hc7))
              (first
                | exact HSX.out _ (Below.drew (Calm.refl _))
                | exact HSX.out _ (Below.drew ((Calm.refl _).alloc _))
                | exact HSF.out _ _ (hcy.alloc _) hgr8
                | exact HSX.out _ hcy
                | exact HSX.out _ (hcy.alloc _)
                | exact HSX.out _ hcw
                | exact HSX.out _ (hcw.alloc _)
                | exact HSX.out _ hcx
                | exact HSX.out _ (hcx.alloc _)
                | go_keep)
              (first
                | (refine step_append_ps rfl _ (.tmp 61) rfl _ (.slice none 0 0) [] lx (by simp [Act.eval, Act.put]) (OwnX.nil (Calm.refl _)) HA m hc (by simp [Act.eval, Act.put]) HLx.out.1 (HLx.out.2.2.read.calm (HC3.out.trans (HCk.out.trans (HCC.out.trans (by first | exact Below.drew (Calm.refl _) | exact Below.drew ((Calm.refl _).alloc _)))))) (by simp; omega) ?_; intro v6 w6 hown60 hgr6; rw [List.nil_append] at hown60; obtain ⟨A6, c6, hv6⟩ := hown60.len_shape; rw [HLx.out.1] at hv6; subst hv6; have hown6 : OwnX encP 2 24 wC w6 (.slice A6 m c6) lx := hown60.base (by first | exact Below.drew (Calm.refl _) | exact Below.drew ((Calm.refl _).alloc _)); have hcx : Calm wC w6 := hown6.calm)
                | (refine step_append_ps rfl (.tmp 62) (.tmp 66) rfl wC (.slice A6 m c6) lx (lc.take k) (by simp [Act.eval, Act.put]) hown6 (some ⟨b0, o0, none⟩) k hc7 (by simp [Act.eval, Act.put]) HTk.out.1 ((takeX HLc.out.2.2 k).read.calm (HCk.out.trans (HCC.out.trans hcx))) (by rw [HLx.out.1]; omega) ?_; intro v7 w7 hown7 hgr7; obtain ⟨AC, cC, hv7⟩ := hown7.len_shape; rw [List.length_append, HLx.out.1, HTk.out.1, HTk.out.2] at hv7; subst hv7; have hP6 := HJk.out wC w7 _ _ _ (HCk.out.trans HCC.out) hown7; have hcw : Calm wC w7 := hown7.calm)
                | (go_at_call 27; refine (KRk.out A2 c2 AC cC w7 (HSm.out.calm hcw).a hP6).mono ?_; rintro e w70 ⟨⟨HA3, hc3, rfl, hp7⟩, hc7'⟩; have hcy : Calm wC w70 := Calm.trans hcw hc7')
                | (refine step_append_g rfl (.tmp 58) (.tmp 69) rfl w3 (.slice A8 L c8) l [⟨A2, c2, HA3, hc3, ⟨mm, redL mm (x.hs ++ (cuts y).take k)⟩⟩] (by simp [Act.eval, Act.put]) (HPk.out.own.to (HCC.out.trans (hcy.alloc _))) _ 1 1 rfl rfl (read_newN ⟨A2, c2, HA3, hc3, ⟨mm, redL mm (x.hs ++ (cuts y).take k)⟩⟩ HM.out.2.1 HM.out.2.2.1 HM.out.2.2.2 rfl) (by rw [HLl.out]; omega) ?_; intro v8 w8 hown8 hgr8; obtain ⟨A9, c9, hv8⟩ := hown8.len_shape; rw [List.length_append, HLl.out, List.length_singleton] at hv8; subst hv8))
            all_goals
              have hreg : OkO w3 w70 ⟨A2, c2, HA3, hc3, ⟨mm, redL mm (x.hs ++ (cuts y).take k)⟩⟩ := ⟨.inr (HSm.out.calm hcy), hp7.mono (Nat.le_trans (HCk.out.trans HCC.out).size hcw.size)⟩
              have HH := Lib.hid (HPk.out.hit HCut.out HM.out.1 rfl (HCC.out.trans (hcy.alloc _)) hown8 (hreg.calm ((Calm.refl w70).alloc _)) hgr8)
              have HLe : Hid ((l ++ [(⟨A2, c2, HA3, hc3, ⟨mm, redL mm (x.hs ++ (cuts y).take k)⟩⟩ : NewG)]).length = L + 1) := by
                show _ = _
                rw [List.length_append, HLl.out]
                rfl
              clear hown8 hgr8 hcx hcy hcw hreg hp7 hP6 hown60 hown6 hown7 hgr6 hgr7 hc7'
              try simp only [List.getElem_toArray, List.getElem_cons_succ, List.getElem_cons_zero, Act.put, List.setIfInBounds_toArray, List.set_cons_succ, List.set_cons_zero]
              go_wp2
              go_roundw
              case rel => exact ⟨k + 1, _, A9, L + 1, c9, by omega, by go_num, rfl, HLe, HH.out⟩
              case measure => simp [intOf]; omega
        · obtain rfl : k = cn := by omega
          have hrow := HPk.out.own.row encG_len
          have hlpos : l.length ≠ 0 := fun e => by
            have h1 := HPk.out.is
            rw [List.eq_nil_of_length_eq_zero e] at h1
            cases h1
          rcases hrow with ⟨_, h0⟩ | ⟨g8, c9, hv8, _, _, hg8, hrow⟩
          · exact absurd (by rw [h0]; rfl) hlpos
          obtain ⟨rfl, -, rfl⟩ : A8 = some ⟨g8, 0, none⟩ ∧ L = l.length ∧ c8 = c9 := by simpa using hv8
          have hpl : l.map (·.g) = pieces x y := by
            have := HPk.out.is
            rw [← HCn.out] at this
            exact this
          have HPL := Lib.hid hpl
          have hL6 : L ≤ 2000 := by omega
          obtain ⟨wS, hwS⟩ : ∃ wS, wS = wr := ⟨_, rfl⟩
          have HO0 : Hid (OwnX encG 3 27 wS wr (.slice none 0 0) []) := by rw [hwS]; exact OwnX.nil (Calm.refl _)
          have HRow : Hid (RowX encG 3 27 wS g8 0 l ∧ ∀ z ∈ l, OkO w3 wS z) := by rw [hwS]; exact ⟨hrow, HPk.out.each⟩
          have HCS : Hid (Calm w3 wS) := by rw [hwS]; exact HCk.out
          clear hrow hlpos hpl hv8 hwS hg8
          go_wp2_with fail
          go_loopw [13, 74] (fun s q wq => ∃ (i : Nat) (A13 : Option Addr) (L13 c13 : Nat), i ≤ L ∧ q = .int .i64 i ∧ s = .slice A13 L13 c13 ∧ Hid ((liveTo l i).length = L13) ∧ Hid (OwnX encG 3 27 wS wq (.slice A13 L13 c13) (liveTo l i)) ∧ Hid (∀ j z, j < i → l[j]? = some z → z.g.hs.length ≤ 64)) (fun _ q _ => L - (intOf q).toNat)
          case atStart => exact ⟨0, none, 0, 0, Nat.zero_le _, rfl, rfl, rfl, HO0.out, fun j z hj => absurd hj (Nat.not_lt_zero _)⟩
          case round =>
            clear HO0
            obtain ⟨wq, rfl⟩ : ∃ wq, wq = wr := ⟨_, rfl⟩
            obtain ⟨i, A13, L13, c13, hi, rfl, rfl, HL13, HOq, HI⟩ := hrel
            have HCq : Hid (Calm wS wq) := HOq.out.calm
            have hL13 : L13 ≤ i := by rw [← HL13.out]; exact liveTo_len _ _
            by_cases hlt2 : i < L
            · obtain ⟨z, hz⟩ : ∃ z, l[i]? = some z := ⟨_, List.getElem?_eq_getElem (by rw [HLl.out]; exact hlt2)⟩
              have hrq := HRow.out.1.calm HCq.out
              obtain ⟨d0, d1, d2⟩ := hrq.at3G hz
              have hrlt := hrq.lt
              obtain ⟨zn, hzn⟩ : ∃ zn, z.g.b.parts.length = zn := ⟨_, rfl⟩
              obtain ⟨zr, hzr⟩ : ∃ zr, z.g.b.rest = zr := ⟨_, rfl⟩
              obtain ⟨zm, hzm⟩ : ∃ zm, z.g.hs.length = zm := ⟨_, rfl⟩
              rw [hzn] at d0
              rw [hzr] at d1
              rw [hzm] at d2
              obtain ⟨wB, hwB⟩ : ∃ wB, wB = wq.alloc (.cells #[.slice z.A zn z.c, .bool zr, .slice z.HA zm z.hc] 27) := ⟨_, rfl⟩
              have hcB : Calm wq wB := by rw [hwB]; exact (Calm.refl wq).alloc _
              have hBz : BoxR wB wq.heap.size z.A zn z.c zr z.HA zm z.hc := by rw [hwB]; exact boxR_new wq z.A zn z.c zr z.HA zm z.hc
              have hzl := List.mem_of_getElem? hz
              have hok := OkO.calm (HRow.out.2 z hzl) (HCq.out.trans hcB)
              have hgood := piece_good (y := y) HGx.out.1 z.g (by rw [← HPL.out]; exact List.mem_map.2 ⟨z, hzl, rfl⟩)
              have hcSB := HCS.out.trans (HCq.out.trans hcB)
              have HZ := Lib.hid (And.intro hzn (And.intro hzr (And.intro hzm hz)))
              have HWB := Lib.hid hwB
              have HCB := Lib.hid hcB
              have HBz := Lib.hid hBz
              have hls := liveTo_succ hz
              have HLs := Lib.hid hls
              clear hrq hwB hcB hBz hzn hzr hzm hls
              by_cases h64 : 64 < zm
              · have hE : Hid (minusR x y = ([], 52)) := by
                  show minusR x y = ([], 52)
                  have ht : tooMany (pieces x y) = true := by
                    unfold tooMany
                    rw [List.any_eq_true]
                    exact ⟨z.g, by rw [← HPL.out]; exact List.mem_map.2 ⟨z, hzl, rfl⟩, by rw [HZ.out.2.2.1]; exact decide_eq_true h64⟩
                  unfold minusR
                  rw [if_neg (by rw [HBo.out]; simp), if_pos ht]
                clear hzl hok hgood hcSB
                go_wp2
                rw [← HWB.out]
                go_ret2
                exact ⟨⟨none, 0, [], by rw [hE.out]; rfl, by rw [hE.out]; rfl, (fun z hz => by cases hz), (fun h => absurd rfl h), Nat.zero_le _, Nat.zero_le _, Nat.zero_le _⟩, HC3.out.trans (HCS.out.trans (HCq.out.trans HCB.out))⟩
              · have hra := OkO.a hok hcSB (by show z.g.hs.length ≤ 16384; rw [HZ.out.2.2.1]; omega)
                obtain ⟨vl, hvz⟩ : ∃ vl, gLen z.g = vl := ⟨_, rfl⟩
                have hcall := rlenG_w z.g vl zn zm zr z.A z.c z.HA z.hc wB hra hgood.1 hgood.2 hvz HZ.out.1 HZ.out.2.2.1 HZ.out.2.1
                have HVz := Lib.hid hvz
                have hI2 : Hid (∀ j z, j < i + 1 → l[j]? = some z → z.g.hs.length ≤ 64) := fun j z' hj hz' => by
                  by_cases e : j = i
                  · subst e
                    rw [HZ.out.2.2.2] at hz'
                    obtain rfl := Option.some.inj hz'
                    rw [HZ.out.2.2.1]
                    omega
                  · exact HI.out j z' (by omega) hz'
                clear hzl hok hra hvz hgood hcSB
                by_cases hvz0 : vl = 0
                · subst hvz0
                  have hl2 : Hid (liveTo l (i + 1) = liveTo l i) := by
                    show _ = _
                    rw [HLs.out, if_pos HVz.out]
                    simp
                  go_wp2_with fail
                  rw [← HWB.out]
                  refine hcall.mono ?_
                  rintro e w9 ⟨rfl, hc9⟩
                  have HO9 := Lib.hid (HOq.out.to (HCB.out.trans hc9))
                  clear hc9
                  go_wp2
                  go_roundw
                  case rel => exact ⟨i + 1, A13, L13, c13, by omega, by go_num, rfl, Lib.hid (by rw [hl2.out]; exact HL13.out), Lib.hid (by rw [hl2.out]; exact HO9.out), hI2⟩
                  case measure => simp [intOf]; omega
                · have hpos : (0 : Int) < (vl : Int) := by omega
                  have hl2 : Hid (liveTo l (i + 1) = liveTo l i ++ [z]) := by
                    show _ = _
                    rw [HLs.out, if_neg (by rw [HVz.out]; exact hvz0)]
                  go_wp2_with fail
                  rw [← HWB.out]
                  refine hcall.mono ?_
                  rintro e w9 ⟨rfl, hc9⟩
                  have hb9 := HBz.out.calm hc9
                  have e0 := hb9.x0
                  have e1 := hb9.x1
                  have e2 := hb9.x2
                  have elt := hb9.lt
                  have HC9 := Lib.hid (HCB.out.trans hc9)
                  clear hb9 hc9 d0 d1 d2
                  go_wp2_with (at_builtin; refine wpList_append_g rfl (.tmp 85) (.tmp 87) rfl wS (.slice A13 L13 c13) (liveTo l i) [z] rfl (HOq.out.to (HC9.out.trans ((Calm.refl _).alloc _))) _ 1 1 rfl rfl (read_newN z HZ.out.1 HZ.out.2.1 HZ.out.2.2.1 rfl) (by rw [HL13.out]; omega) ?_; intro v8 w8 hown8 hgr8; obtain ⟨A9, c9, hv8⟩ := hown8.len_shape; rw [List.length_append, HL13.out, List.length_singleton] at hv8; subst hv8)
                  have HH := Lib.hid hown8
                  clear hown8 hgr8 e0 e1 e2 elt
                  go_wp2
                  go_roundw
                  case rel => exact ⟨i + 1, A9, L13 + 1, c9, by omega, by go_num, rfl, Lib.hid (by rw [hl2.out, List.length_append, HL13.out]; rfl), Lib.hid (by rw [hl2.out]; exact HH.out), hI2⟩
                  case measure => simp [intOf]; omega
            · obtain rfl : i = L := by omega
              have hlive : Hid ((liveTo l i).map (·.g) = liveOf (pieces x y)) := by
                show _ = _
                rw [← HPL.out, ← HLl.out]
                exact liveTo_map l
              have hE : Hid (minusR x y = (liveOf (pieces x y), 0)) := by
                show _ = _
                have ht : tooMany (pieces x y) = false := by
                  unfold tooMany
                  rw [List.any_eq_false]
                  intro g hg
                  rw [← HPL.out] at hg
                  obtain ⟨z, hz, rfl⟩ := List.mem_map.1 hg
                  obtain ⟨j, hj, e⟩ := List.mem_iff_getElem.1 hz
                  have := HI.out j z (by rw [← HLl.out]; exact hj) (by rw [List.getElem?_eq_getElem hj, e])
                  simp
                  omega
                unfold minusR
                rw [if_neg (by rw [HBo.out]; simp), ht]
                rfl
              have hregs : Hid (∀ z ∈ liveTo l i, RegA wq z.A z.c z.HA z.g.b z.g.hs) := fun z hz => by
                have hzl := liveTo_sub z hz
                obtain ⟨j, hj, e⟩ := List.mem_iff_getElem.1 hzl
                have := HI.out j z (by rw [← HLl.out]; exact hj) (by rw [List.getElem?_eq_getElem hj, e])
                exact OkO.a (OkO.calm (HRow.out.2 z hzl) HCq.out) (HCS.out.trans HCq.out) (by omega)
              have hread : Hid (ReadX encG 3 wq A13 (liveTo l i)) := by
                rcases HOq.out.row encG_len with ⟨_, h0⟩ | ⟨g, c9, hv, _, _, _, hr⟩
                · exact fun hne => absurd h0 hne
                · obtain ⟨rfl, _, _⟩ : A13 = some ⟨g, 0, none⟩ ∧ L13 = (liveTo l i).length ∧ c13 = c9 := by simpa using hv
                  exact fun _ => ⟨g, 0, rfl, hr.lt, hr.cell⟩
              have hcap : Hid ((liveTo l i).length ≤ c13 ∧ c13 ≤ 9223372036854775807) := by
                rcases HOq.out.row encG_len with ⟨hv, h0⟩ | ⟨g, c9, hv, h1, h2, _, hr⟩
                · rw [h0]
                  obtain ⟨_, _, rfl⟩ : A13 = none ∧ L13 = 0 ∧ c13 = 0 := by simpa using hv
                  exact ⟨Nat.le_refl _, Nat.zero_le _⟩
                · obtain ⟨_, _, rfl⟩ : A13 = some ⟨g, 0, none⟩ ∧ L13 = (liveTo l i).length ∧ c13 = c9 := by simpa using hv
                  exact ⟨h1, h2⟩
              have hfin : Hid (MinusEnd x y (.returned (.tuple #[.slice A13 L13 c13, .int .i64 0])) wq) :=
                ⟨A13, c13, liveTo l i, by rw [hE.out, HL13.out], by rw [hE.out]; exact hlive.out, hregs.out, hread.out, by rw [HL13.out]; omega, hcap.out.1, hcap.out.2⟩
              go_wp2
              go_ret2
              exact ⟨hfin.out, HC3.out.trans (HCS.out.trans HCq.out)⟩
  · by_cases hv0 : v = 0
    · subst hv0
      have hv1 : ¬ v' = 0 := fun e => h0 ⟨rfl, e⟩
      have hb : (v' == 0) = false := by simpa using hv1
      have hE : Hid (minusR x y = ([], v')) := by
        show _ = _
        have : bothErr x y = v' := by rw [bothErr, if_pos HV.out.1]; exact HV.out.2
        unfold minusR
        rw [this, if_pos hv1]
      clear h0 hv1
      go_enter Tryz.func14, Tryz.ntmps14
      go_wp2_with fail
      rw [← HW.out]
      refine K0.mono ?_
      rintro e w2 ⟨rfl, hc2⟩
      have b2 := HB.out.calm hc2
      have y0 := b2.y0
      have y1 := b2.y1
      have y2 := b2.y2
      clear b2
      go_wp2_with fail
      refine (K1.out w2 hc2).mono ?_
      rintro e w3 ⟨rfl, hc3⟩
      go_wp2
      go_ret2
      exact ⟨⟨none, 0, [], by rw [hE.out]; rfl, by rw [hE.out]; rfl, (fun z hz => by cases hz), (fun h => absurd rfl h), Nat.zero_le _, Nat.zero_le _, Nat.zero_le _⟩, HC.out.trans (hc2.trans hc3)⟩
    · have hb : (v == 0) = false := by simpa using hv0
      have hE : Hid (minusR x y = ([], v)) := by
        show _ = _
        have : bothErr x y = v := by rw [bothErr, HV.out.1, if_neg hv0]
        unfold minusR
        rw [this, if_pos hv0]
      clear h0 hv0
      go_enter Tryz.func14, Tryz.ntmps14
      go_wp2_with fail
      rw [← HW.out]
      refine K0.mono ?_
      rintro e w2 ⟨rfl, hc2⟩
      go_wp2
      go_ret2
      exact ⟨⟨none, 0, [], by rw [hE.out]; rfl, by rw [hE.out]; rfl, (fun z hz => by cases hz), (fun h => absurd rfl h), Nat.zero_le _, Nat.zero_le _, Nat.zero_le _⟩, HC.out.trans hc2⟩
theorem gminus_w (x y : Reg) (gs : List Reg) (er : Int) (L n m n' m' : Nat) (re re' : Bool) (A : Option Addr) (c : Nat) (HA : Option Addr) (hc : Nat) (A' : Option Addr) (c' : Nat) (HA' : Option Addr) (hc' : Nat) (w : World) (h : RegA w A c HA x.b x.hs) (h' : RegA w A' c' HA' y.b y.hs)
    (hn : x.b.parts.length = n) (hm : x.hs.length = m) (hre : x.b.rest = re) (hn' : y.b.parts.length = n') (hm' : y.hs.length = m') (hre' : y.b.rest = re') (hl : m + m' ≤ 1000) (hmc : m ≤ hc) (hmc63 : hc ≤ 9223372036854775807) (hgs : (minusR x y).1 = gs) (her : (minusR x y).2 = er) (hL : gs.length = L) :
    Calls Tryz.prog 13 #[.agg #[.slice A n c, .bool re, .slice HA m hc], .agg #[.slice A' n' c', .bool re', .slice HA' m' hc']] w fun e w' => (∃ A3 c3 l, e = .returned (.tuple #[.slice A3 L c3, .int .i64 er]) ∧ l.map (·.g) = gs ∧ (∀ z ∈ l, RegA w' z.A z.c z.HA z.g.b z.g.hs) ∧ ReadX encG 3 w' A3 l ∧ L ≤ 10000 ∧ L ≤ c3 ∧ c3 ≤ 9223372036854775807) ∧ Calm w w' := by
  refine (gminus_c x y n m n' m' re re' A c HA hc A' c' HA' hc' w h h' hn hm hre hn' hm' hre' hl hmc hmc63).mono ?_
  rintro e w' ⟨⟨A3, c3, l, rfl, hmp, hr, hx, hl2, hl3, hl4⟩, hcm⟩
  have hlen : l.length = L := by rw [← hL, ← hgs, ← hmp, List.length_map]
  rw [hlen] at hl2 hl3 ⊢
  exact ⟨⟨A3, c3, l, by rw [her], hmp.trans hgs, hr, hx, hl2, hl3, hl4⟩, hcm⟩
theorem rminus_w (x y : Reg) (gs : List Reg) (er : Int) (L n m n' m' : Nat) (re re' : Bool) (A : Option Addr) (c : Nat) (HA : Option Addr) (hc : Nat) (A' : Option Addr) (c' : Nat) (HA' : Option Addr) (hc' : Nat) (w : World) (h : RegA w A c HA x.b x.hs) (h' : RegA w A' c' HA' y.b y.hs)
    (hn : x.b.parts.length = n) (hm : x.hs.length = m) (hre : x.b.rest = re) (hn' : y.b.parts.length = n') (hm' : y.hs.length = m') (hre' : y.b.rest = re') (hl : m + m' ≤ 1000) (hmc : m ≤ hc) (hmc63 : hc ≤ 9223372036854775807) (hgs : (minusR x y).1 = gs) (her : (minusR x y).2 = er) (hL : gs.length = L) :
    Calls Tryz.prog 14 #[.agg #[.slice A n c, .bool re, .slice HA m hc], .agg #[.slice A' n' c', .bool re', .slice HA' m' hc']] w fun e w' => (∃ A3 c3 l, e = .returned (.tuple #[.slice A3 L c3, .int .i64 er]) ∧ l.map (·.g) = gs ∧ (∀ z ∈ l, RegA w' z.A z.c z.HA z.g.b z.g.hs) ∧ ReadX encG 3 w' A3 l ∧ L ≤ 10000 ∧ L ≤ c3 ∧ c3 ≤ 9223372036854775807) ∧ Calm w w' := by
  refine (rminus_c x y n m n' m' re re' A c HA hc A' c' HA' hc' w h h' hn hm hre hn' hm' hre' hl hmc hmc63).mono ?_
  rintro e w' ⟨⟨A3, c3, l, rfl, hmp, hr, hx, hl2, hl3, hl4⟩, hcm⟩
  have hlen : l.length = L := by rw [← hL, ← hgs, ← hmp, List.length_map]
  rw [hlen] at hl2 hl3 ⊢
  exact ⟨⟨A3, c3, l, by rw [her], hmp.trans hgs, hr, hx, hl2, hl3, hl4⟩, hcm⟩
set_option maxRecDepth 100000 in
set_option maxHeartbeats 16000000 in
theorem minuses_law_c (b : Pat) (hs : List Pat) (b2 : Pat) (hs2 : List Pat) (A : Option Addr) (c : Nat) (HA : Option Addr) (hc : Nat) (A2 : Option Addr) (c2 : Nat) (HA2 : Option Addr) (hc2 : Nat) (w : World)
    (hb : StrsG w A b.parts) (hh : PatsG w HA hs) (hbc : b.parts.length ≤ c) (hcc : c ≤ 9223372036854775807) (hhc : hs.length ≤ hc) (hhcc : hc ≤ 9223372036854775807)
    (hb2 : StrsG w A2 b2.parts) (hh2 : PatsG w HA2 hs2) (hbc2 : b2.parts.length ≤ c2) (hcc2 : c2 ≤ 9223372036854775807) (hhc2 : hs2.length ≤ hc2) (hhcc2 : hc2 ≤ 9223372036854775807) (hT : Tab w) :
    Calls Tryz.prog 4 #[.agg #[.slice A b.parts.length c, .bool b.rest, .slice HA hs.length hc], .agg #[.slice A2 b2.parts.length c2, .bool b2.rest, .slice HA2 hs2.length hc2]] w fun e w' => e = .returned (.bool true) ∧ Calm w w' := by
  obtain ⟨hn, hhn⟩ : ∃ hn, hs.length = hn := ⟨_, rfl⟩
  obtain ⟨bn, hbn⟩ : ∃ bn, b.parts.length = bn := ⟨_, rfl⟩
  obtain ⟨br, hbr⟩ : ∃ br, b.rest = br := ⟨_, rfl⟩
  obtain ⟨hn2, hhn2⟩ : ∃ hn, hs2.length = hn := ⟨_, rfl⟩
  obtain ⟨bn2, hbn2⟩ : ∃ bn, b2.parts.length = bn := ⟨_, rfl⟩
  obtain ⟨br2, hbr2⟩ : ∃ br, b2.rest = br := ⟨_, rfl⟩
  obtain ⟨w1, hw1⟩ : ∃ w1, w1 = (w.alloc (.cells #[.slice A bn c, .bool br, .slice HA hn hc] 27)).alloc (.cells #[.slice A2 bn2 c2, .bool br2, .slice HA2 hn2 hc2] 27) := ⟨_, rfl⟩
  have hc1 : Calm w w1 := by rw [hw1]; exact ((Calm.refl w).alloc _).alloc _
  have hbox : Box2 w1 w.heap.size A bn c br HA hn hc A2 bn2 c2 br2 HA2 hn2 hc2 := by rw [hw1]; exact box2_new w A bn c br HA hn hc A2 bn2 c2 br2 HA2 hn2 hc2
  have K1 := small_v b hs bn hn br A c HA hc w1 (hb.calm hc1) (hh.calm hc1) hbc hcc hhc hhcc hbn hhn hbr
  have K2 : Hid (∀ W, Calm w1 W → Calls Tryz.prog 8 #[.agg #[.slice A2 bn2 c2, .bool br2, .slice HA2 hn2 hc2]] W fun e w' => SmallEnd b2 hs2 e ∧ Calm W w') := fun W hW => small_v b2 hs2 bn2 hn2 br2 A2 c2 HA2 hc2 W ((hb2.calm hc1).calm hW) ((hh2.calm hc1).calm hW) hbc2 hcc2 hhc2 hhcc2 hbn2 hhn2 hbr2
  have HW := Lib.hid hw1
  have HC := Lib.hid hc1
  have HT := Lib.hid (hT.calm hc1)
  have HB := Lib.hid hbox
  have HReg : Hid (SmallB b hs → RegA w1 A c HA b hs) := fun h => h.reg (hb.calm hc1) (hh.calm hc1) hbc hcc
  have HReg2 : Hid (SmallB b2 hs2 → RegA w1 A2 c2 HA2 b2 hs2) := fun h => h.reg (hb2.calm hc1) (hh2.calm hc1) hbc2 hcc2
  have HN : Hid (hs.length = hn ∧ b.parts.length = bn ∧ b.rest = br) := ⟨hhn, hbn, hbr⟩
  have HN2 : Hid (hs2.length = hn2 ∧ b2.parts.length = bn2 ∧ b2.rest = br2) := ⟨hhn2, hbn2, hbr2⟩
  rw [hhn] at hhc
  have HHc := Lib.hid (And.intro hhc hhcc)
  rw [hhn, hbn, hbr, hhn2, hbn2, hbr2]
  clear hw1 hc1 hb hh hb2 hh2 hT hhn hbn hbr hbc hhc hhcc hhn2 hbn2 hbr2 hbc2 hhc2 hbox
  go_enter Tryz.func4, Tryz.ntmps4
  go_wp2_with fail
  rw [← HW.out]
  refine K1.mono ?_
  rintro e w2 ⟨⟨r1, rfl, hr1⟩, hc2'⟩
  have y0 := (HB.out.calm hc2').y0
  have y1 := (HB.out.calm hc2').y1
  have y2 := (HB.out.calm hc2').y2
  cases r1 with
  | false =>
    go_wp2_with (go_at_call 9; refine (awake_c _ (HT.out.calm hc2')).mono ?_; rintro e w3 ⟨rfl, hc3⟩)
    go_ret
    exact ⟨rfl, HC.out.trans (hc2'.trans hc3)⟩
  | true =>
    have HSa := Lib.hid (hr1 rfl)
    have HC2 := Lib.hid hc2'
    clear hr1 hc2' K1
    go_wp2_with fail
    refine (K2.out w2 HC2.out).mono ?_
    rintro e w3 ⟨⟨r2, rfl, hr2⟩, hc3⟩
    have HC3 := Lib.hid (HC2.out.trans hc3)
    clear y0 y1 y2
    cases r2 with
    | false =>
      go_wp2_with (go_at_call 9; refine (awake_c _ (HT.out.calm HC3.out)).mono ?_; rintro e w4 ⟨rfl, hc4⟩)
      go_ret
      exact ⟨rfl, HC.out.trans (HC3.out.trans hc4)⟩
    | true =>
      have hn70 : hn ≤ 70 := by have := HSa.out.holes; rw [HN.out.1] at this; exact this
      have hn702 : hn2 ≤ 70 := by have := (hr2 rfl).holes; rw [HN2.out.1] at this; exact this
      have HX := Lib.hid (HReg.out HSa.out)
      have HY := Lib.hid (HReg2.out (hr2 rfl))
      obtain ⟨x, hx⟩ : ∃ x : Reg, x = ⟨b, hs⟩ := ⟨_, rfl⟩
      obtain ⟨y, hy⟩ : ∃ y : Reg, y = ⟨b2, hs2⟩ := ⟨_, rfl⟩
      have HX' : Hid (RegA w1 A c HA x.b x.hs ∧ x.hs.length = hn ∧ x.b.parts.length = bn ∧ x.b.rest = br) := by rw [hx]; exact ⟨HX.out, HN.out⟩
      have HY' : Hid (RegA w1 A2 c2 HA2 y.b y.hs ∧ y.hs.length = hn2 ∧ y.b.parts.length = bn2 ∧ y.b.rest = br2) := by rw [hy]; exact ⟨HY.out, HN2.out⟩
      obtain ⟨gs, hgs⟩ : ∃ gs, (minusR x y).1 = gs := ⟨_, rfl⟩
      obtain ⟨er, her⟩ : ∃ er, (minusR x y).2 = er := ⟨_, rfl⟩
      obtain ⟨L, hL⟩ : ∃ L, gs.length = L := ⟨_, rfl⟩
      have KM1 : Hid (∀ W, Calm w1 W → Calls Tryz.prog 13 #[.agg #[.slice A bn c, .bool br, .slice HA hn hc], .agg #[.slice A2 bn2 c2, .bool br2, .slice HA2 hn2 hc2]] W fun e w' => (∃ A3 c3 l, e = .returned (.tuple #[.slice A3 L c3, .int .i64 er]) ∧ l.map (·.g) = gs ∧ (∀ z ∈ l, RegA w' z.A z.c z.HA z.g.b z.g.hs) ∧ ReadX encG 3 w' A3 l ∧ L ≤ 10000 ∧ L ≤ c3 ∧ c3 ≤ 9223372036854775807) ∧ Calm W w') := fun W hW =>
        gminus_w x y gs er L bn hn bn2 hn2 br br2 A c HA hc A2 c2 HA2 hc2 W (HX'.out.1.calm hW) (HY'.out.1.calm hW) HX'.out.2.2.1 HX'.out.2.1 HX'.out.2.2.2 HY'.out.2.2.1 HY'.out.2.1 HY'.out.2.2.2 (by omega) HHc.out.1 HHc.out.2 hgs her hL
      have KM2 : Hid (∀ W, Calm w1 W → Calls Tryz.prog 14 #[.agg #[.slice A bn c, .bool br, .slice HA hn hc], .agg #[.slice A2 bn2 c2, .bool br2, .slice HA2 hn2 hc2]] W fun e w' => (∃ A3 c3 l, e = .returned (.tuple #[.slice A3 L c3, .int .i64 er]) ∧ l.map (·.g) = gs ∧ (∀ z ∈ l, RegA w' z.A z.c z.HA z.g.b z.g.hs) ∧ ReadX encG 3 w' A3 l ∧ L ≤ 10000 ∧ L ≤ c3 ∧ c3 ≤ 9223372036854775807) ∧ Calm W w') := fun W hW =>
        rminus_w x y gs er L bn hn bn2 hn2 br br2 A c HA hc A2 c2 HA2 hc2 W (HX'.out.1.calm hW) (HY'.out.1.calm hW) HX'.out.2.2.1 HX'.out.2.1 HX'.out.2.2.2 HY'.out.2.2.1 HY'.out.2.1 HY'.out.2.2.2 (by omega) HHc.out.1 HHc.out.2 hgs her hL
      have HL := Lib.hid hL
      have HGood : Hid (∀ g ∈ gs, g.hs.length ≤ 64) := fun g hg => by
        rw [← hgs] at hg
        by_cases h0 : (minusR x y).2 = 0
        · exact (gErr_zero ((minusR_zero h0).2.2.1 g hg).1).2.2
        · have he : (minusR x y).1 = [] := by
            unfold minusR at h0 ⊢
            split
            · rfl
            · split
              · rfl
              · rename_i h1 h2
                rw [if_neg h1, if_neg h2] at h0
                exact absurd rfl h0
          rw [he] at hg
          cases hg
      clear hx hy HX HY HN HN2 HSa hr2 HReg HReg2 hgs her hL K2 hc3 HHc hn70 hn702
      have b3 := HB.out.calm HC3.out
      have x0 := b3.x0
      have x1 := b3.x1
      have x2 := b3.x2
      have y0 := b3.y0
      have y1 := b3.y1
      have y2 := b3.y2
      clear b3
      go_wp2_with fail
      refine (KM1.out w3 HC3.out).mono ?_
      rintro e w4 ⟨⟨A4, c4, l, rfl, hl1, hl2, hl3, hL10, hLc, hLc63⟩, hcc4⟩
      have HC4 := Lib.hid (HC3.out.trans hcc4)
      have HLa := Lib.hid (And.intro hl1 (And.intro hl2 hl3))
      clear x0 x1 x2 y0 y1 y2 KM1 hcc4 hl1 hl2 hl3
      have b4 := HB.out.calm HC4.out
      have x0 := b4.x0
      have x1 := b4.x1
      have x2 := b4.x2
      have y0 := b4.y0
      have y1 := b4.y1
      have y2 := b4.y2
      clear b4
      go_wp2_with fail
      refine (KM2.out w4 HC4.out).mono ?_
      rintro e w5 ⟨⟨A5, c5, l2, rfl, hm1, hm2, hm3, _, hMc, hMc63⟩, hcc5⟩
      have HC5 := Lib.hid (HC4.out.trans hcc5)
      have HCC := Lib.hid hcc5
      have HLb := Lib.hid (And.intro hm1 (And.intro hm2 hm3))
      clear x0 x1 x2 y0 y1 y2 KM2 hcc5 hm1 hm2 hm3
      have HLen : Hid (l.length = L ∧ l2.length = L) := by
        refine ⟨?_, ?_⟩
        · rw [← HL.out, ← HLa.out.1, List.length_map]
        · rw [← HL.out, ← HLb.out.1, List.length_map]
      go_wp2_with fail
      go_loopw [43] (fun q wr => ∃ i : Nat, i ≤ L ∧ q = .int .i64 i ∧ Hid (Calm w5 wr)) (fun q _ => L - (intOf q).toNat)
      case atStart => exact ⟨0, Nat.zero_le _, rfl, Calm.refl _⟩
      case round =>
        obtain ⟨wk, rfl⟩ : ∃ wk, wk = wr := ⟨_, rfl⟩
        obtain ⟨i, hi, rfl, HCk⟩ := hrel
        by_cases hlt : i < L
        · obtain ⟨z1, hz1⟩ : ∃ z, l[i]? = some z := ⟨_, List.getElem?_eq_getElem (by rw [HLen.out.1]; exact hlt)⟩
          obtain ⟨z2, hz2⟩ : ∃ z, l2[i]? = some z := ⟨_, List.getElem?_eq_getElem (by rw [HLen.out.2]; exact hlt)⟩
          have hsame : z2.g = z1.g := by
            have h1 : (l.map (·.g))[i]? = some z1.g := by rw [List.getElem?_map, hz1]; rfl
            have h2 : (l2.map (·.g))[i]? = some z2.g := by rw [List.getElem?_map, hz2]; rfl
            rw [HLa.out.1] at h1
            rw [HLb.out.1, h1] at h2
            exact (Option.some.inj h2).symm
          obtain ⟨b0, o0, rfl, hb0, hk0⟩ := HLa.out.2.2 (fun e => by rw [e] at hz1; simp at hz1)
          obtain ⟨b1, o1, rfl, hb1, hk1⟩ := HLb.out.2.2 (fun e => by rw [e] at hz2; simp at hz2)
          obtain ⟨n1, hn1⟩ : ∃ n, z1.g.b.parts.length = n := ⟨_, rfl⟩
          obtain ⟨r1, hr1⟩ : ∃ r, z1.g.b.rest = r := ⟨_, rfl⟩
          obtain ⟨m1, hm1⟩ : ∃ m, z1.g.hs.length = m := ⟨_, rfl⟩
          have hCa := HCC.out.trans HCk.out
          have p0 := hk0 i z1 hz1 0 _ rfl
          have p1 := hk0 i z1 hz1 1 _ rfl
          have p2 := hk0 i z1 hz1 2 _ rfl
          have q0 := hk1 i z2 hz2 0 _ rfl
          have q1 := hk1 i z2 hz2 1 _ rfl
          have q2 := hk1 i z2 hz2 2 _ rfl
          rw [Nat.add_zero] at p0 q0
          rw [hn1] at p0
          rw [hr1] at p1
          rw [hm1] at p2
          rw [hsame, hn1] at q0
          rw [hsame, hr1] at q1
          rw [hsame, hm1] at q2
          have HSX : Hid (∀ W, Calm wk W → W.cell? ⟨b0, o0 + i * 3, none⟩ = some (.slice z1.A n1 z1.c) ∧ W.cell? ⟨b0, o0 + i * 3 + 1, none⟩ = some (.bool r1) ∧ W.cell? ⟨b0, o0 + i * 3 + 2, none⟩ = some (.slice z1.HA m1 z1.hc) ∧ W.cell? ⟨b1, o1 + i * 3, none⟩ = some (.slice z2.A n1 z2.c) ∧ W.cell? ⟨b1, o1 + i * 3 + 1, none⟩ = some (.bool r1) ∧ W.cell? ⟨b1, o1 + i * 3 + 2, none⟩ = some (.slice z2.HA m1 z2.hc)) := fun W hW =>
            ⟨Calm.at_ (hCa.trans hW) p0 hb0, Calm.at_ (hCa.trans hW) p1 hb0, Calm.at_ (hCa.trans hW) p2 hb0, Calm.at_ (HCk.out.trans hW) q0 hb1, Calm.at_ (HCk.out.trans hW) q1 hb1, Calm.at_ (HCk.out.trans hW) q2 hb1⟩
          have KS : Hid (∀ W, Calm wk W → Calls Tryz.prog 12 #[.agg #[.slice z1.A n1 z1.c, .bool r1, .slice z1.HA m1 z1.hc], .agg #[.slice z2.A n1 z2.c, .bool r1, .slice z2.HA m1 z2.hc]] W fun e w' => e = .returned (.bool true) ∧ Calm W w') := fun W hW => by
            have h2 := (HLb.out.2.1 z2 (List.mem_of_getElem? hz2)).calm (HCk.out.trans hW)
            rw [hsame] at h2
            exact rsameg_v z1.g n1 m1 r1 z1.A z1.c z1.HA z1.hc z2.A z2.c z2.HA z2.hc W ((HLa.out.2.1 z1 (List.mem_of_getElem? hz1)).calm (hCa.trans hW)) h2 hn1 hm1 hr1
          have hb0' := Nat.lt_of_lt_of_le hb0 hCa.size
          have hb1' := Nat.lt_of_lt_of_le hb1 HCk.out.size
          clear hz1 hz2 hsame hb0 hk0 hb1 hk1 hn1 hr1 hm1 hCa p0 p1 p2 q0 q1 q2
          go_wp2_with fail
          go_region_held3 (fun W => W.cell? ⟨b0, o0 + i * 3, none⟩ = some (.slice z1.A n1 z1.c) ∧ W.cell? ⟨b0, o0 + i * 3 + 1, none⟩ = some (.bool r1) ∧ W.cell? ⟨b0, o0 + i * 3 + 2, none⟩ = some (.slice z1.HA m1 z1.hc) ∧ W.cell? ⟨b1, o1 + i * 3, none⟩ = some (.slice z2.A n1 z2.c) ∧ W.cell? ⟨b1, o1 + i * 3 + 1, none⟩ = some (.bool r1) ∧ W.cell? ⟨b1, o1 + i * 3 + 2, none⟩ = some (.slice z2.HA m1 z2.hc))
            (first
              | exact HSX.out _ (Below.drew (Calm.refl _))
              | exact HSX.out _ hcz
              | go_keep)
            (first
              | (go_at_call 12; refine (KS.out _ (Below.drew (Calm.refl _))).mono ?_; rintro e w9 ⟨rfl, hc9⟩; have hcz : Calm wk w9 := Calm.trans (Below.drew (Calm.refl _)) hc9))
          all_goals
            go_wp2_with fail
            go_roundw
            case rel => exact ⟨i + 1, by omega, by go_num, HCk.out.trans hcz⟩
            case measure => simp [intOf]; omega
        · obtain rfl : i = L := by omega
          have HCw := Lib.hid (HC5.out.trans HCk.out)
          go_wp2_with (go_at_call 9; refine (awake_c _ (HT.out.calm HCw.out)).mono ?_; rintro e w9 ⟨rfl, hc9⟩)
          go_ret
          exact ⟨rfl, HC.out.trans (HCw.out.trans hc9)⟩
end Go.Proofs.YtdndfkoklhfffaaGreatDoor
