/- Minus and Empty, whatever comes out. -/
import Derived.Test.YtdndfkoklhfffaaDoorMinus
set_option linter.unusedVariables false
set_option linter.unusedSimpArgs false
namespace Go.Proofs.YtdndfkoklhfffaaDoor
open Go Go.RowKit Sy

theorem gminusV (x y : Reg) (gs : List Reg) (er : Int) (L n m n' m' : Nat) (re re' : Bool) (A : Option Addr) (c : Nat) (HA : Option Addr) (hc : Nat) (A' : Option Addr) (c' : Nat) (HA' : Option Addr) (hc' : Nat) (w : World) (h : RegA w A c HA x.b x.hs) (h' : RegA w A' c' HA' y.b y.hs)
    (hn : x.b.parts.length = n) (hm : x.hs.length = m) (hre : x.b.rest = re) (hn' : y.b.parts.length = n') (hm' : y.hs.length = m') (hre' : y.b.rest = re') (hl : m + m' ≤ 1000) (hmc : m ≤ hc) (hmc63 : hc ≤ 9223372036854775807) (hgs : (minusR x y).1 = gs) (her : (minusR x y).2 = er) (hL : gs.length = L) :
    Calls Tryd.prog 26 #[.agg #[.slice A n c, .bool re, .slice HA m hc], .agg #[.slice A' n' c', .bool re', .slice HA' m' hc']] w fun e w' => (∃ A3 c3 l, e = .returned (.tuple #[.slice A3 L c3, .int .i64 er]) ∧ l.map (·.g) = gs ∧ (∀ z ∈ l, RegA w' z.A z.c z.HA z.g.b z.g.hs) ∧ ReadX encG 3 w' A3 l ∧ L ≤ 10000 ∧ L ≤ c3 ∧ c3 ≤ 9223372036854775807) ∧ Calm w w' := by
  refine (gminus_c x y n m n' m' re re' A c HA hc A' c' HA' hc' w h h' hn hm hre hn' hm' hre' hl hmc hmc63).mono ?_
  rintro e w' ⟨⟨A3, c3, l, rfl, hmp, hr, hx, hl2, hl3, hl4⟩, hcm⟩
  have hlen : l.length = L := by rw [← hL, ← hgs, ← hmp, List.length_map]
  rw [hlen] at hl2 hl3 ⊢
  exact ⟨⟨A3, c3, l, by rw [her], hmp.trans hgs, hr, hx, hl2, hl3, hl4⟩, hcm⟩
theorem emptyV (g : Reg) (v : Int) (r : Bool) (n m : Nat) (re : Bool) (A : Option Addr) (c : Nat) (HA : Option Addr) (hc : Nat) (w : World) (h : RegA w A c HA g.b g.hs) (hv : gErr g = v) (hr : (v == 0 && gLen g == 0) = r) (hn : g.b.parts.length = n) (hm : g.hs.length = m) (hre : g.b.rest = re) :
    Calls Tryd.prog 12 #[.agg #[.slice A n c, .bool re, .slice HA m hc]] w fun e w' => e = .returned (.tuple #[.bool r, .int .i64 v]) ∧ Calm w w' := by
  subst hn hm hre
  have := empty_c g.b g.hs A c HA hc w h.base h.room h.cap h.holes
  have e : emptyVal g.b g.hs = .tuple #[.bool r, .int .i64 v] := by
    have hv' : regErr g.b g.hs = v := hv
    unfold emptyVal
    rw [← hr, hv']
    by_cases h0 : v = 0
    · subst h0; simp [void, gLen]
    · simp [h0]
  rw [e] at this
  exact this
theorem own_readG {w0 w : World} {A : Option Addr} {n c : Nat} {l : List NewG} (h : OwnX encG 3 27 w0 w (.slice A n c) l) : ReadX encG 3 w A l ∧ l.length ≤ c ∧ c ≤ 9223372036854775807 := by
  rcases h.row encG_len with ⟨hv, h0⟩ | ⟨g, c9, hv, h1, h2, _, hr⟩
  · subst h0
    obtain ⟨_, _, rfl⟩ : A = none ∧ n = 0 ∧ c = 0 := by simpa using hv
    exact ⟨fun hne => absurd rfl hne, Nat.le_refl _, Nat.zero_le _⟩
  · obtain ⟨rfl, _, rfl⟩ : A = some ⟨g, 0, none⟩ ∧ n = l.length ∧ c = c9 := by simpa using hv
    exact ⟨fun _ => ⟨g, 0, rfl, hr.lt, hr.cell⟩, h1, h2⟩
end Go.Proofs.YtdndfkoklhfffaaDoor
