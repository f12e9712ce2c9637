/- Contracts of Meet, Simplify, whatever comes out; boxes of regions; zero regions. -/
import Derived.Test.YtdndfkoklhfffaaGreatDoorGMeet
set_option linter.unusedVariables false
set_option linter.unusedSimpArgs false
namespace Go.Proofs.YtdndfkoklhfffaaGreatDoor
open Go Go.RowKit Sy

theorem simp_yes (g : Reg) (n m : Nat) (re : Bool) (rl : Nat) (A : Option Addr) (c : Nat) (HA : Option Addr) (hc : Nat) (w : World) (h : RegA w A c HA g.b g.hs) (hv : gErr g = 0) (hn : g.b.parts.length = n) (hm : g.hs.length = m) (hre : g.b.rest = re) (hrl : (redL g.b g.hs).length = rl) :
    Calls Tryz.prog 15 #[.agg #[.slice A n c, .bool re, .slice HA m hc]] w fun e w' => (∃ A3 c3 HA3 hc3, e = .returned (.tuple #[.agg #[.slice A3 n c3, .bool re, .slice HA3 rl hc3], .int .i64 0]) ∧ RegN w' w.heap.size A3 c3 HA3 hc3 ⟨g.b, redL g.b g.hs⟩) ∧ Calm w w' := by
  refine (simp_ok g.b g.hs A c HA hc n m re w h.base h.room h.cap h.holes hv hn hm hre).mono ?_
  rintro e w' ⟨⟨A3, c3, HA3, hc3, he, h1, h2⟩, h3⟩
  refine ⟨⟨A3, c3, HA3, hc3, ?_, regN_of h1 h2 h.base.len h.base.each⟩, h3⟩
  rw [he, hn, hre, hrl]
theorem simp_not (g : Reg) (v : Int) (n m : Nat) (re : Bool) (A : Option Addr) (c : Nat) (HA : Option Addr) (hc : Nat) (w : World) (h : RegA w A c HA g.b g.hs) (hv : gErr g = v) (hv0 : v ≠ 0) (hn : g.b.parts.length = n) (hm : g.hs.length = m) (hre : g.b.rest = re) :
    Calls Tryz.prog 15 #[.agg #[.slice A n c, .bool re, .slice HA m hc]] w fun e w' => e = .returned (.tuple #[.agg #[.slice none 0 0, .bool false, .slice none 0 0], .int .i64 v]) ∧ Calm w w' :=
  simp_bad g.b g.hs A c HA hc n m re v w h.base h.room h.cap h.holes hv hv0 hn hm hre
theorem rsameg_v (g : Reg) (n m : Nat) (re : Bool) (A : Option Addr) (c : Nat) (HA : Option Addr) (hc : Nat) (A' : Option Addr) (c' : Nat) (HA' : Option Addr) (hc' : Nat) (w : World) (h : RegA w A c HA g.b g.hs) (h' : RegA w A' c' HA' g.b g.hs) (hn : g.b.parts.length = n) (hm : g.hs.length = m) (hre : g.b.rest = re) :
    Calls Tryz.prog 12 #[.agg #[.slice A n c, .bool re, .slice HA m hc], .agg #[.slice A' n c', .bool re, .slice HA' m hc']] w fun e w' => e = .returned (.bool true) ∧ Calm w w' :=
  rsameg_c g.b g.hs n m re A c HA hc A' c' HA' hc' w h.base.toU h'.base.toU h.holes.toV h'.holes.toV hn hm hre
/-- A region's box. -/
structure BoxR (w1 : World) (B : Nat) (A : Option Addr) (n c : Nat) (re : Bool) (HA : Option Addr) (m hc : Nat) : Prop where
  lt : B < w1.heap.size
  x0 : w1.cell? ⟨B, 0, none⟩ = some (.slice A n c)
  x1 : w1.cell? ⟨B, 1, none⟩ = some (.bool re)
  x2 : w1.cell? ⟨B, 2, none⟩ = some (.slice HA m hc)
theorem BoxR.calm {w1 w2 : World} {B : Nat} {A : Option Addr} {n c : Nat} {re : Bool} {HA : Option Addr} {m hc' : Nat} (h : BoxR w1 B A n c re HA m hc') (hc : Calm w1 w2) : BoxR w2 B A n c re HA m hc' :=
  ⟨Nat.lt_of_lt_of_le h.lt hc.size, hc.at_ h.x0 h.lt, hc.at_ h.x1 h.lt, hc.at_ h.x2 h.lt⟩
theorem boxR_new (w : World) (A : Option Addr) (n c : Nat) (re : Bool) (HA : Option Addr) (m hc : Nat) : BoxR (w.alloc (.cells #[.slice A n c, .bool re, .slice HA m hc] 27)) w.heap.size A n c re HA m hc :=
  ⟨by simp, by simp [go_sem], by simp [go_sem], by simp [go_sem]⟩

def zeroReg : Reg := ⟨⟨[], false⟩, []⟩
theorem regA_zero (w : World) : RegA w none 0 none zeroReg.b zeroReg.hs :=
  ⟨⟨Nat.zero_le _, (fun l hl => by cases hl), fun h => absurd h (Nat.lt_irrefl _)⟩, Nat.le_refl _, by decide, ⟨Nat.zero_le _, fun h => absurd h (Nat.lt_irrefl _)⟩⟩
theorem meetR_len {x y g : Reg} (h : (meetR x y).1 = some g) : g.hs.length ≤ 64 := (gErr_zero (meetR_some h).2.2.2.1).2.2
/-- Meet, whatever comes out. -/
theorem gmeet_v (x y G : Reg) (ok : Bool) (er : Int) (gn gm : Nat) (gr : Bool) (n m n' m' : Nat) (re re' : Bool) (A : Option Addr) (c : Nat) (HA : Option Addr) (hc : Nat) (A' : Option Addr) (c' : Nat) (HA' : Option Addr) (hc' : Nat) (w : World) (h : RegA w A c HA x.b x.hs) (h' : RegA w A' c' HA' y.b y.hs)
    (hn : x.b.parts.length = n) (hm : x.hs.length = m) (hre : x.b.rest = re) (hn' : y.b.parts.length = n') (hm' : y.hs.length = m') (hre' : y.b.rest = re') (hl : m + m' ≤ 16384)
    (hG : (meetR x y).1.getD zeroReg = G) (hok : (meetR x y).1.isSome = ok) (her : (meetR x y).2 = er) (hgn : G.b.parts.length = gn) (hgm : G.hs.length = gm) (hgr : G.b.rest = gr) :
    Calls Tryz.prog 10 #[.agg #[.slice A n c, .bool re, .slice HA m hc], .agg #[.slice A' n' c', .bool re', .slice HA' m' hc']] w fun e w' => (∃ A3 c3 HA3 hc3, e = .returned (.tuple #[.agg #[.slice A3 gn c3, .bool gr, .slice HA3 gm hc3], .bool ok, .int .i64 er]) ∧ RegA w' A3 c3 HA3 G.b G.hs) ∧ Calm w w' := by
  refine (gmeet_c x y n m n' m' re re' A c HA hc A' c' HA' hc' w h h' hn hm hre hn' hm' hre' hl).mono ?_
  rintro e w' ⟨hE, hc⟩
  refine ⟨?_, hc⟩
  rcases hE with ⟨g, A3, c3, HA3, hc3, h1, h2, he, hr⟩ | ⟨h1, he⟩
  · rw [h1] at hG hok
    obtain rfl : g = G := hG
    obtain rfl : true = ok := hok
    rw [h2] at her
    subst her hgn hgm hgr
    exact ⟨A3, c3, HA3, hc3, he, hr.a (by have := meetR_len h1; omega)⟩
  · rw [h1] at hG hok
    obtain rfl : zeroReg = G := hG
    obtain rfl : false = ok := hok
    subst her hgn hgm hgr
    exact ⟨none, 0, none, 0, he, regA_zero w'⟩
def simpR (g : Reg) : Reg := if gErr g = 0 then ⟨g.b, redL g.b g.hs⟩ else zeroReg
/-- Simplify, whatever comes out. -/
theorem simp_v (g G : Reg) (er : Int) (gn gm : Nat) (gr : Bool) (n m : Nat) (re : Bool) (A : Option Addr) (c : Nat) (HA : Option Addr) (hc : Nat) (w : World) (h : RegA w A c HA g.b g.hs) (hn : g.b.parts.length = n) (hm : g.hs.length = m) (hre : g.b.rest = re)
    (hG : simpR g = G) (her : gErr g = er) (hgn : G.b.parts.length = gn) (hgm : G.hs.length = gm) (hgr : G.b.rest = gr) :
    Calls Tryz.prog 15 #[.agg #[.slice A n c, .bool re, .slice HA m hc]] w fun e w' => (∃ A3 c3 HA3 hc3, e = .returned (.tuple #[.agg #[.slice A3 gn c3, .bool gr, .slice HA3 gm hc3], .int .i64 er]) ∧ RegA w' A3 c3 HA3 G.b G.hs) ∧ Calm w w' := by
  unfold simpR at hG
  by_cases h0 : gErr g = 0
  · rw [if_pos h0] at hG
    subst hG
    obtain rfl : (0 : Int) = er := h0.symm.trans her
    refine (simp_yes g n m re gm A c HA hc w h h0 hn hm hre hgm).mono ?_
    rintro e w' ⟨⟨A3, c3, HA3, hc3, he, hr⟩, hcm⟩
    refine ⟨⟨A3, c3, HA3, hc3, ?_, hr.a (by have := redL_len g.b g.hs; have h64 := (gErr_zero h0).2.2; show (redL g.b g.hs).length ≤ 16384; omega)⟩, hcm⟩
    rw [he, ← hgn, ← hgr, ← hn, ← hre]
  · rw [if_neg h0] at hG
    subst hG hgn hgm hgr
    refine (simp_not g er n m re A c HA hc w h her (by rw [← her]; exact h0) hn hm hre).mono ?_
    rintro e w' ⟨he, hcm⟩
    exact ⟨⟨none, 0, none, 0, he, regA_zero w'⟩, hcm⟩
theorem box2_new (w : World) (A : Option Addr) (n c : Nat) (re : Bool) (HA : Option Addr) (m hc : Nat) (A' : Option Addr) (n' c' : Nat) (re' : Bool) (HA' : Option Addr) (m' hc' : Nat) : Box2 ((w.alloc (.cells #[.slice A n c, .bool re, .slice HA m hc] 27)).alloc (.cells #[.slice A' n' c', .bool re', .slice HA' m' hc'] 27)) w.heap.size A n c re HA m hc A' n' c' re' HA' m' hc' :=
  ⟨by simp, by simp [go_sem], by simp [go_sem], by simp [go_sem], by simp [go_sem], by simp [go_sem], by simp [go_sem]⟩
theorem small_v (b : Pat) (hs : List Pat) (bn hn : Nat) (br : Bool) (A : Option Addr) (c : Nat) (HA : Option Addr) (hc : Nat) (w : World) (hb : StrsG w A b.parts) (hh : PatsG w HA hs) (hbc : b.parts.length ≤ c) (hcc : c ≤ 9223372036854775807) (hhc : hs.length ≤ hc) (hhcc : hc ≤ 9223372036854775807) (hbn : b.parts.length = bn) (hhn : hs.length = hn) (hbr : b.rest = br) :
    Calls Tryz.prog 8 #[.agg #[.slice A bn c, .bool br, .slice HA hn hc]] w fun e w' => SmallEnd b hs e ∧ Calm w w' := by
  have := small_c b hs A c HA hc w hb hh hbc hcc hhc hhcc
  rw [hhn, hbn, hbr] at this
  exact this

theorem OwnX.len_shape {α : Type} {enc : α → List Value} {K : Nat} {T : TypeId} {w0 w : World} {v : Value} {l : List α} (h : OwnX enc K T w0 w v l) : ∃ A c, v = .slice A l.length c := by
  rcases h.own.2 with ⟨rfl, h0⟩ | ⟨g, cap, cur, rfl, _⟩
  · exact ⟨none, 0, by rw [h0]⟩
  · exact ⟨_, _, rfl⟩
theorem own_reads {w0 W : World} {A : Option Addr} {n c : Nat} {l : List NewP} (h : OwnX encP 2 24 w0 W (.slice A n c) l) (he : ∀ x ∈ l, PatA W x.A x.c x.p) (hl : l.length ≤ 16384) : PatsR W A (l.map (·.p)) := by
  obtain ⟨A', c', hv, _, _, hX⟩ := h.places he
  obtain ⟨rfl, _, _⟩ : A = A' ∧ n = l.length ∧ c = c' := by simpa using hv
  exact hX.reads hl
/-- A zero region in a block of regions. -/
structure ZeroK (W : World) (b : Nat) : Prop where
  z : ZeroAt W b
  kind : ∃ cs, W.heap[b]? = some (.cells cs 27 (0, 0))
theorem ZeroK.calm {W W' : World} {b : Nat} (h : ZeroK W b) (hc : Calm W W') : ZeroK W' b := ⟨h.z.calm hc, by obtain ⟨cs, hh⟩ := h.kind; exact ⟨cs, (hc.block _ h.z.lt).trans hh⟩⟩
theorem ZeroK.own {W W' w0 : World} {b n : Nat} {v : Value} {xs : List Value} (h : ZeroK W b) (hown : W.ownsRow w0.heap.size 24 2 v n xs) (hg : W.grownBy W' v.ownBlock) : ZeroK W' b := by
  have hne : some b ≠ v.ownBlock := fun e => by
    obtain ⟨cs, hh⟩ := h.kind
    rcases hown.2 with ⟨rfl, _⟩ | ⟨g', cap, cur, rfl, _, hgh, _⟩
    · simp [Value.ownBlock] at e
    · have e2 : b = g' := by simpa [Value.ownBlock] using e
      rw [e2, hgh] at hh
      injection hh with hh
      injection hh with _ ht
      exact absurd ht (by decide)
  have hb := hg.block b h.z.lt hne
  have hcell : ∀ o, W'.cell? ⟨b, o, none⟩ = W.cell? ⟨b, o, none⟩ := fun o => World.cell?_of_block (a := ⟨b, o, none⟩) hb
  have hfr : ∀ o, W'.frozen? ⟨b, o, none⟩ = W.frozen? ⟨b, o, none⟩ := fun o => World.frozen?_of_block (a := ⟨b, o, none⟩) hb
  exact ⟨⟨Nat.lt_of_lt_of_le h.z.lt hg.size, (hcell 0).trans h.z.z0, (hcell 1).trans h.z.z1, (hcell 2).trans h.z.z2, (hfr 0).trans h.z.f0, (hfr 1).trans h.z.f1, (hfr 2).trans h.z.f2⟩, by obtain ⟨cs, hh⟩ := h.kind; exact ⟨cs, hb.trans hh⟩⟩
theorem zk_new (w : World) : ZeroK (w.alloc (.cells #[.slice none 0 0, .bool false, .slice none 0 0] 27)) w.heap.size := ⟨zero_c w, ⟨_, heap_alloc_new w _⟩⟩
theorem zk_newd (w : World) : ZeroK (w.alloc (.cells #[.slice none 0 0, .bool false, .slice none 0 0] 27)).drew w.heap.size := (zk_new w).calm (Below.drew (Calm.refl _))
end Go.Proofs.YtdndfkoklhfffaaGreatDoor
