/- Walks: the reference's Least. -/
import Derived.Test.YtdndfkoklhfffaaDoorWalkT
set_option linter.unusedVariables false
set_option linter.unusedSimpArgs false
namespace Go.Proofs.YtdndfkoklhfffaaDoor
open Go Go.RowKit Sy

theorem starts_comp : ∀ c ∈ starts, isByte c = true ∧ c ≠ 46 := by decide +kernel
theorem start_comp {p : Str} {c : UInt8} (hc : c ∈ starts) (hp : starOk p = true) : comp (c :: p.tail) = true := by
  cases p with
  | nil => cases hp
  | cons a t =>
    rw [starOk_cons, Bool.and_eq_true] at hp
    have := starts_comp c hc
    simp [comp, this.1, this.2]
    simpa using hp.2

/-- What the list of living holes is good for at the place i. -/
def Alive (b : Pat) (hs al : List Pat) (n i : Nat) : Prop := (∀ x, aftL al x i n = hs.filter (isOpen n (comps b hs n i ++ [x]))) ∧ (∀ h ∈ al, goodPat h)
theorem alive_zero (b : Pat) (hs : List Pat) (n : Nat) (g : ∀ h ∈ hs, goodPat h) : Alive b hs hs n 0 := by
  refine ⟨fun x => ?_, g⟩
  show hs.filter _ = hs.filter (isOpen n ([] ++ [x]))
  congr 1
  funext h
  rw [isOpen_snoc]
  simp [goes, isOpen]
theorem alive_succ {b : Pat} {hs al : List Pat} {n i : Nat} (h : Alive b hs al n i) : Alive b hs (aftL al (pick b hs n (comps b hs n i)) i n) n (i + 1) := by
  refine ⟨fun x => ?_, fun q hq => h.2 q (List.mem_filter.1 hq).1⟩
  rw [h.1]
  show (hs.filter (isOpen n (comps b hs n (i + 1)))).filter _ = _
  rw [List.filter_filter]
  congr 1
  funext q
  rw [isOpen_snoc, comps_length]
  rcases ho : isOpen n (comps b hs n (i + 1)) q with _ | _
  · simp
  · have hr : reaches q n = true := by
      simp only [isOpen, Bool.and_eq_true] at ho
      exact ho.1
    simp [goes, hr]
theorem aftOk_eq {b : Pat} {hs al : List Pat} {n i : Nat} (h : Alive b hs al n i) (x : Str) : aftOk b al x i n = allowed b hs n (comps b hs n i) x := by
  rw [aftOk, h.1, allowed, Bool.eq_iff_iff, List.all_eq_true, List.all_eq_true]
  constructor
  · intro h1 q hq
    rcases ho : isOpen n (comps b hs n i ++ [x]) q with _ | _
    · rw [isOpen_snoc, comps_length] at ho
      simp only [closes, comps_length]
      rcases h2 : isOpen n (comps b hs n i) q with _ | _
      · simp
      · rw [h2, Bool.true_and] at ho
        simp [ho]
    · have h3 := h1 q (List.mem_filter.2 ⟨hq, ho⟩)
      have h4 : covers q b (i + 1) n = false := by simpa using h3
      simp [closes, comps_length, h4]
  · intro h1 q hq
    obtain ⟨hm, ho⟩ := List.mem_filter.1 hq
    have h2 := h1 q hm
    rw [isOpen_snoc, Bool.and_eq_true] at ho
    simp only [closes, comps_length, ho.1, Bool.true_and] at h2
    rw [comps_length] at ho
    simp only [ho.2, Bool.and_true] at h2
    exact h2

theorem after_v (b : Pat) (hs al : List Pat) (x : Str) (i n : Nat) (A : Option Addr) (c : Nat) (HA : Option Addr) (hc : Nat) (w0 w : World) (h0 : Calm w0 w) (hi : i ≤ 19000) (hn : n ≤ 20000) (hx : x.length ≤ 20000) (hco : comp x = true)
    (hb : StrsR w A b.parts) (hh : PatsO w0 w HA al) (gb : goodPat b) (ha : Alive b hs al n i) (hok : allowed b hs n (comps b hs n i) x = true) :
    Calls Tryd.prog 41 #[.agg #[.slice A b.parts.length c, .bool b.rest], .slice HA al.length hc, .string (bs x), .int .i64 i, .int .i64 n] w fun e w' => ∃ A' c', e = .returned (.tuple #[.slice A' (aftL al x i n).length c', .bool true]) ∧ Calm w w' ∧ PatsO w0 w' A' (aftL al x i n) :=
  (after_c b al x i n A c HA hc w0 w h0 hi hn hx hco hb hh gb ha.2).mono fun e w' ⟨h1, h2⟩ => by
    rcases h2 with ⟨h3, A', c', h4, h5⟩ | ⟨h3, h4⟩
    · exact ⟨A', c', h4, h1, h5⟩
    · rw [aftOk_eq ha, hok] at h3; cases h3
theorem after_f (b : Pat) (hs al : List Pat) (x : Str) (i n : Nat) (A : Option Addr) (c : Nat) (HA : Option Addr) (hc : Nat) (w0 w : World) (h0 : Calm w0 w) (hi : i ≤ 19000) (hn : n ≤ 20000) (hx : x.length ≤ 20000) (hco : comp x = true)
    (hb : StrsR w A b.parts) (hh : PatsO w0 w HA al) (gb : goodPat b) (ha : Alive b hs al n i) (hok : allowed b hs n (comps b hs n i) x = false) :
    Calls Tryd.prog 41 #[.agg #[.slice A b.parts.length c, .bool b.rest], .slice HA al.length hc, .string (bs x), .int .i64 i, .int .i64 n] w fun e w' => e = .returned (.tuple #[.slice none 0 0, .bool false]) ∧ Calm w w' :=
  (after_c b al x i n A c HA hc w0 w h0 hi hn hx hco hb hh gb ha.2).mono fun e w' ⟨h1, h2⟩ => by
    rcases h2 with ⟨h3, A', c', h4, h5⟩ | ⟨h3, h4⟩
    · rw [aftOk_eq ha, hok] at h3; cases h3
    · exact ⟨h4, h1⟩

/-- What the reference's Least hands back. -/
def rleastVal (b : Pat) (hs : List Pat) : Value :=
  if leastLen b hs = 0 then .tuple #[.string (bs []), .bool false] else .tuple #[.string (bs (leastStr b hs (leastLen b hs))), .bool true]

/-- What the outer loop keeps. -/
structure RLoop (w1 : World) (b : Pat) (hs : List Pat) (n i : Nat) (va vl : Value) (w : World) : Prop where
  calm : Calm w1 w
  al : ∃ al Aa ca, va = .slice Aa al.length ca ∧ PatsO w1 w Aa al ∧ Alive b hs al n i
  own : w.ownsRow w1.heap.size 9 1 vl (comps b hs n i).length (strCells (comps b hs n i))

/-- Behind the append of a component. -/
theorem str_step {w1 wr w4 w5 : World} {v v5 : Value} {ls : List Str} {x : Str} {i : Nat} (h1 : Calm w1 wr) (hown : wr.ownsRow w1.heap.size 9 1 v i (strCells ls)) (hc : Calm wr w4)
    (hown5 : w5.ownsRow w1.heap.size 9 1 v5 (i + 1) (strCells ls ++ [.string (bs x)])) (hg : w4.grownBy w5 v.ownBlock) (hl : ls.length = i) :
    ∃ g c, v5 = .slice (some ⟨g, 0, none⟩) (i + 1) c ∧ g < w5.heap.size ∧ w5.cell? ⟨g, i, none⟩ = some (.string (bs x)) ∧ Calm w1 w5 := by
  have hb := owns_below (owns_calm hown hc) (Nat.le_trans h1.size hc.size) hg
  obtain ⟨g, c, hv, _, hlt⟩ := hown5.form (by omega)
  refine ⟨g, c, hv, hlt, ?_, Below.trans (h1.trans hc) hb⟩
  have := hown5.cells (g := g) (by rw [hv]; rfl) i (.string (bs x)) (by
    rw [List.getElem?_append_right (by simp [strCells, hl])]
    simp [strCells, hl])
  rw [Addr.add_lit] at this
  simpa using this

set_option maxRecDepth 100000 in
set_option maxHeartbeats 4000000 in
theorem rleast_c (b : Pat) (hs : List Pat) (A : Option Addr) (c : Nat) (HA : Option Addr) (hc : Nat) (w : World) (hb : StrsR w A b.parts) (hh : PatsR w HA hs) (gb : goodPat b) (gh : ∀ h ∈ hs, goodPat h) (h64 : hs.length ≤ 64) :
    Calls Tryd.prog 15 #[.agg #[.slice A b.parts.length c, .bool b.rest, .slice HA hs.length hc]] w fun e w' => e = .returned (rleastVal b hs) ∧ Calm w w' := by
  obtain ⟨i0, hi0, hz0, hz1, hz2⟩ := info_parts info_str
  obtain ⟨hn, hhn⟩ : ∃ hn, hs.length = hn := ⟨_, rfl⟩
  obtain ⟨w1, hw1⟩ : ∃ w1, w1 = w.alloc (.cells #[.slice A b.parts.length c, .bool b.rest, .slice HA hn hc] 27) := ⟨_, rfl⟩
  have hc1 : Calm w w1 := by rw [hw1]; exact (Calm.refl w).alloc _
  have hs1 : w.heap.size < w1.heap.size := by rw [hw1]; simp
  have k0 : w1.cell? ⟨w.heap.size, 0, none⟩ = some (.slice A b.parts.length c) := by rw [hw1]; simp
  have k1 : w1.cell? ⟨w.heap.size, 1, none⟩ = some (.bool b.rest) := by rw [hw1]; simp
  have k2 : w1.cell? ⟨w.heap.size, 2, none⟩ = some (.slice HA hn hc) := by rw [hw1]; simp
  obtain ⟨n, hnn⟩ : ∃ n, leastLen b hs = n := ⟨_, rfl⟩
  have hll := rlen_v b hs n A c HA hc w1 hnn (hb.calm hc1) (hh.calm hc1) gb gh
  have HN16 : Hid (n ≤ 16388) := by show n ≤ 16388; rw [← hnn]; exact leastLen_le hb.len hh.lens
  have HInv : Hid (n ≠ 0 → ∀ k, Inv b hs n (comps b hs n k)) := fun h0 k => by
    rw [← hnn]
    exact inv_comps (leastLen_full (by rw [hnn]; exact h0)) h64 k
  have H64 := Lib.hid h64
  rw [hhn] at hll h64 ⊢
  have HW := Lib.hid hw1
  have HC := Lib.hid hc1
  have Hhn := Lib.hid hhn
  have Hnn := Lib.hid hnn
  have HK := Lib.hid (And.intro hs1 (And.intro k0 (And.intro k1 k2)))
  have HB := Lib.hid (hb.calm hc1)
  have HH := Lib.hid (hh.calm hc1)
  have HG := Lib.hid gh
  clear hw1 hc1 hhn hnn hs1 k0 k1 k2 hb hh gh
  go_enter Tryd.func15, Tryd.ntmps15
  by_cases hn0 : n = 0
  · have hv : Hid (rleastVal b hs = .tuple #[.string (bs []), .bool false]) := by show rleastVal b hs = _; rw [rleastVal, if_pos (by rw [Hnn.out]; exact hn0)]
    subst hn0
    go_wp2_with (go_at_call 38; rw [← HW.out]; refine hll.mono ?_; rintro e w2 ⟨rfl, hc2⟩)
    go_ret2
    exact ⟨by rw [hv.out]; rfl, HC.out.trans hc2⟩
  · have hnb : ((n : Int) == 0) = false := by simp; omega
    have Hn0 := Lib.hid hn0
    clear hn0
    go_wp2_with (go_at_call 38; rw [← HW.out]; refine hll.mono ?_; rintro e w2 ⟨rfl, hc2⟩; have l2 := hc2.at_ HK.out.2.2.2 HK.out.1)
    have hn16 := HN16.out
    have HC2 := Lib.hid hc2
    clear hll hc2 l2
    go_loopw [5, 6, 7] (fun va vl q wr => ∃ i : Nat, i ≤ n ∧ q = .int .i64 i ∧ Hid (RLoop w1 b hs n i va vl wr)) (fun _ _ q _ => n - (intOf q).toNat)
    case atStart => exact ⟨0, Nat.zero_le _, rfl, HC2.out, ⟨hs, HA, hc, by rw [Hhn.out], (PatsO.of HH.out).calm HC2.out, alive_zero b hs n HG.out⟩, World.ownsRow_nil _ _ _ _⟩
    case round =>
      obtain ⟨i, hi, rfl, HL⟩ := hrel
      by_cases hlt : i < n
      · obtain ⟨al, Aa, ca, hva, hal, hAl⟩ := HL.out.al
        subst hva
        have HAl := Lib.hid hAl
        have Hal := Lib.hid hal
        have hown := HL.out.own
        rw [comps_length] at hown
        have HOwn := Lib.hid hown
        have hpok := goodPat_at gb i
        have hpl := pAt_len HB.out (i := i)
        have l0 := HL.out.calm.at_ HK.out.2.1 HK.out.1
        have l1 := HL.out.calm.at_ HK.out.2.2.1 HK.out.1
        have hpart := fun W (hW : Calm w1 W) => rpart_c b i A c W (by omega) (HB.out.calm hW)
        have HPart := Lib.hid hpart
        have HPa := Lib.hid (pick_allowed (HInv.out Hn0.out i) H64.out)
        clear hal hAl hown hpart
        rcases hst : isStar (pAt b i) with _ | _
        · have hstv := fun W => star_v (pAt b i) false [] W hpl (by rw [starOk_iff hpok, hst]) (by rw [starSuf, starOk_iff hpok, hst]; rfl)
          have hpick : pick b hs n (comps b hs n i) = pAt b i := by
            unfold pick
            rw [comps_length]
            simp [hst]
          have HPick := Lib.hid hpick
          have hcomp : comp (pAt b i) = true := by
            have h1 := starOk_iff hpok
            rw [hst] at h1
            simpa [partOk, h1] using hpok
          clear hpick
          go_wp2_with fail
          refine (HPart.out _ HL.out.calm).mono ?_
          rintro e w3 ⟨rfl, hc3⟩
          have m0 := (HL.out.calm.trans hc3).at_ HK.out.2.1 HK.out.1
          have m1 := (HL.out.calm.trans hc3).at_ HK.out.2.2.1 HK.out.1
          go_wp2_with fail
          refine (hstv _).mono ?_
          rintro e w' ⟨rfl, rfl⟩
          clear l0 l1 hstv
          go_wp2_with fail
          refine (HPart.out _ (HL.out.calm.trans hc3)).mono ?_
          rintro e w4 ⟨rfl, hc5⟩
          clear m0 m1
          have hcw := hc3.trans hc5
          have hown4 := owns_calm HOwn.out (hcw.alloc (.cells #[.string (bs (pAt b i))] 9))
          have hsz4 := Nat.le_trans HL.out.calm.size (hcw.alloc (.cells #[.string (bs (pAt b i))] 9)).size
          go_wp2_with (at_builtin; go_must (refine wpList_append_own _ rfl (.tmp 35) (.tmp 40) 22 rfl w1.heap.size 9 i0 _ 1 16 Tryd.underlying22 hi0 hz0 hz1 hz2 rfl (by decide) u6 i (strCells (comps b hs n i)) rfl hown4 ⟨w4.heap.size, 0, none⟩ 1 1 [.string (bs (pAt b i))] rfl rfl (World.news_of_block (cs := #[.string (bs (pAt b i))]) (t := 9) (fr := (0, 0)) (heap_alloc_new w4 _)) (by simp [Value.oneCell']) (by unfold maxLen; omega) (by omega) hsz4 ?_); intro v5 w5 hown5 hgrow5 _; obtain ⟨g5, c5, hv5, hg5, hcell5, hcal5⟩ := str_step HL.out.calm HOwn.out (hcw.alloc _) hown5 hgrow5 (comps_length b hs n i); subst hv5)
          have HSt : Hid (∀ W : World, Calm w5 W → (W.cell? ⟨w.heap.size, 0, none⟩ = some (.slice A b.parts.length c) ∧ W.cell? ⟨w.heap.size, 1, none⟩ = some (.bool b.rest) ∧ W.cell? ⟨g5, i, none⟩ = some (.string (bs (pAt b i))))) := fun W hW =>
            ⟨(hcal5.trans hW).at_ HK.out.2.1 HK.out.1, (hcal5.trans hW).at_ HK.out.2.2.1 HK.out.1, hW.at_ hcell5 hg5⟩
          have KA : Hid (∀ W : World, Calm w5 W → Calls Tryd.prog 41 #[.agg #[.slice A b.parts.length c, .bool b.rest], .slice Aa al.length ca, .string (bs (pAt b i)), .int .i64 i, .int .i64 n] W fun e w' => ∃ A' c', e = .returned (.tuple #[.slice A' (aftL al (pAt b i) i n).length c', .bool true]) ∧ Calm W w' ∧ PatsO w1 w' A' (aftL al (pAt b i) i n)) := fun W hW =>
            after_v b hs al (pAt b i) i n A c Aa ca w1 W (hcal5.trans hW) (by omega) (by omega) (by omega) hcomp (HB.out.calm (hcal5.trans hW)) (((Hal.out.calm (hcw.alloc _)).grown (Nat.le_refl _) hown4 hgrow5).calm hW) gb HAl.out (by have := HPa.out; rw [HPick.out] at this; exact this)
          have HO5 := Lib.hid hown5
          have HC5 := Lib.hid hcal5
          have hix0 : (0 : Int) ≤ (i : Int) := by omega
          have hix1 : (i : Int) < (i : Int) + 1 := by omega
          have hix2 : (i : Int) < ((i + 1 : Nat) : Int) := by omega
          clear hown4 hsz4 hown5 hgrow5 hcell5 hcal5 hc3 hc5 hcw
          go_region_held3 (fun w' => w'.cell? ⟨w.heap.size, 0, none⟩ = some (.slice A b.parts.length c) ∧ w'.cell? ⟨w.heap.size, 1, none⟩ = some (.bool b.rest) ∧ w'.cell? ⟨g5, i, none⟩ = some (.string (bs (pAt b i))))
            (first
              | exact HSt.out _ ((Calm.refl _).drewN 1)
              | exact HSt.out _ hw6)
            ((first
              | (go_at_call 41; refine (KA.out _ ((Calm.refl _).drewN 1)).mono ?_; rintro e w6 ⟨A6, c6, rfl, hc6, hp6⟩; have hw6 : Calm w5 w6 := ((Calm.refl w5).drewN 1).trans hc6)))
          go_wp2
          go_roundw
          case rel =>
            refine ⟨i + 1, by omega, by go_num, HC5.out.trans hw6, ⟨_, A6, c6, rfl, hp6, ?_⟩, ?_⟩
            · have := alive_succ HAl.out
              rw [HPick.out] at this
              exact this
            · have h7 : comps b hs n (i + 1) = comps b hs n i ++ [pAt b i] := by
                rw [← HPick.out]; rfl
              rw [h7, List.length_append, comps_length]
              have h8 := owns_calm HO5.out hw6
              simpa [strCells] using h8
          case measure => simp [intOf]; omega
        · obtain ⟨sf, hsf⟩ : ∃ sf, (pAt b i).tail = sf := ⟨_, rfl⟩
          have hstv := fun W => star_v (pAt b i) true sf W hpl (by rw [starOk_iff hpok, hst]) (by rw [starSuf, starOk_iff hpok, hst, ← hsf]; rfl)
          go_wp2_with fail
          refine (HPart.out _ HL.out.calm).mono ?_
          rintro e w3 ⟨rfl, hc3⟩
          go_wp2_with fail
          refine (hstv _).mono ?_
          rintro e w' ⟨rfl, rfl⟩
          clear l0 l1 hstv
          go_wp2_with fail
          refine (firsts_c _).mono ?_
          rintro e w4 ⟨hc4, A4, c4, rfl, hst4⟩
          go_wp2_with fail
          have HS4 := Lib.hid hst4
          have hc14 := HL.out.calm.trans (hc3.trans hc4)
          have HC14 := Lib.hid hc14
          have HC34 := Lib.hid (hc3.trans hc4)
          have hsl : sf.length ≤ 16384 := by rw [← hsf, List.length_tail]; omega
          have HSf := Lib.hid hsf
          have HSt := Lib.hid hst
          have HPo := Lib.hid hpok
          clear hst4 hc14 hc3 hc4 hsf hst hpok
          go_loopw [5, 6, 57] (fun va' vl' q wr' => ∃ j : Nat, j ≤ 65 ∧ q = .int .i64 j ∧ va' = .slice Aa al.length ca ∧ vl' = u6 ∧ Hid (Calm w4 wr') ∧ Hid (∀ k x, k < j → starts[k]? = some x → allowed b hs n (comps b hs n i) (x :: sf) = false)) (fun _ _ q _ => 65 - (intOf q).toNat)
          case atStart => exact ⟨0, Nat.zero_le _, rfl, rfl, rfl, Calm.refl _, fun k x hk => absurd hk (Nat.not_lt_zero _)⟩
          case round =>
            obtain ⟨j, hj, rfl, rfl, rfl, HCj, HNo⟩ := hrel
            by_cases hj5 : j < 65
            · obtain ⟨b2, o2, l, rfl, hb2, hl, hll, hcl⟩ := (HS4.out.calm HCj.out).get (k := j) (by simpa [starts] using hj5)
              rw [List.getElem?_map] at hl
              obtain ⟨cc, hcc, rfl⟩ := Option.map_eq_some_iff.1 hl
              have hcat : bs [cc] ++ bs sf = bs (cc :: sf) := (bs_append [cc] sf).symm
              have m0 := (HC14.out.trans HCj.out).at_ HK.out.2.1 HK.out.1
              have m1 := (HC14.out.trans HCj.out).at_ HK.out.2.2.1 HK.out.1
              have hin : cc ∈ starts := List.mem_of_getElem? hcc
              have hco : comp (cc :: sf) = true := by rw [← HSf.out]; exact start_comp hin (by rw [starOk_iff HPo.out, HSt.out])
              have hxl : (cc :: sf).length ≤ 20000 := by simp; omega
              rcases hal : allowed b hs n (comps b hs n i) (cc :: sf) with _ | _
              · go_wp2_with fail
                refine (after_f b hs al (cc :: sf) i n A c Aa ca w1 _ (HC14.out.trans HCj.out) (by omega) (by omega) hxl hco (HB.out.calm (HC14.out.trans HCj.out)) (Hal.out.calm (HC34.out.trans HCj.out)) gb HAl.out hal).mono ?_
                rintro e w6 ⟨rfl, hc6⟩
                clear m0 m1
                go_wp2
                go_roundw
                case rel =>
                  refine ⟨j + 1, by omega, by go_num, rfl, rfl, HCj.out.trans hc6, fun k x hk hx => ?_⟩
                  by_cases e : k = j
                  · subst e
                    rw [hcc] at hx
                    cases hx
                    exact hal
                  · exact HNo.out k x (by omega) hx
                case measure => simp [intOf]; omega
              · have hpick : pick b hs n (comps b hs n i) = cc :: sf := by
                  unfold pick
                  rw [comps_length]
                  simp only [HSt.out, if_true, HSf.out]
                  have hf : (starts.find? fun x => allowed b hs n (comps b hs n i) (x :: sf)) = some cc := by
                    rw [List.find?_eq_some_iff_getElem]
                    obtain ⟨hjl, hje⟩ := List.getElem?_eq_some_iff.1 hcc
                    exact ⟨hal, j, hjl, hje, fun k hk => by rw [HNo.out k _ hk (List.getElem?_eq_getElem (by omega))]; rfl⟩
                  rw [hf]
                  rfl
                have HPick := Lib.hid hpick
                have HCol := Lib.hid hco
                have HAlw := Lib.hid hal
                clear hpick
                go_wp2_with fail
                refine (after_v b hs al (cc :: sf) i n A c Aa ca w1 _ (HC14.out.trans HCj.out) (by omega) (by omega) hxl hco (HB.out.calm (HC14.out.trans HCj.out)) (Hal.out.calm (HC34.out.trans HCj.out)) gb HAl.out hal).mono ?_
                rintro e w6 ⟨A6, c6, rfl, hc6, hp6⟩
                clear m0 m1
                have hcw := HC34.out.trans (HCj.out.trans hc6)
                have hown4 := owns_calm HOwn.out (hcw.alloc (.cells #[.string (bs (cc :: sf))] 9))
                have hsz4 := Nat.le_trans HL.out.calm.size (hcw.alloc (.cells #[.string (bs (cc :: sf))] 9)).size
                go_wp2_with (at_builtin; go_must (refine wpList_append_own _ rfl (.tmp 74) (.tmp 78) 22 rfl w1.heap.size 9 i0 _ 1 16 Tryd.underlying22 hi0 hz0 hz1 hz2 rfl (by decide) u6 i (strCells (comps b hs n i)) rfl hown4 ⟨w6.heap.size, 0, none⟩ 1 1 [.string (bs (cc :: sf))] rfl rfl (World.news_of_block (cs := #[.string (bs (cc :: sf))]) (t := 9) (fr := (0, 0)) (heap_alloc_new w6 _)) (by simp [Value.oneCell']) (by unfold maxLen; omega) (by omega) hsz4 ?_); intro v5 w5 hown5 hgrow5 _; obtain ⟨g5, c5, hv5, hg5, hcell5, hcal5⟩ := str_step HL.out.calm HOwn.out (hcw.alloc _) hown5 hgrow5 (comps_length b hs n i); subst hv5)
                go_roundw
                case rel =>
                  refine ⟨i + 1, by omega, by go_num, hcal5, ⟨_, A6, c6, rfl, (hp6.calm ((Calm.refl w6).alloc _)).grown (Nat.le_refl _) hown4 hgrow5, ?_⟩, ?_⟩
                  · have := alive_succ HAl.out
                    rw [HPick.out] at this
                    exact this
                  · have h7 : comps b hs n (i + 1) = comps b hs n i ++ [cc :: sf] := by
                      rw [← HPick.out]; rfl
                    rw [h7, List.length_append, comps_length]
                    simpa [strCells] using hown5
                case measure => simp [intOf]; omega
            · obtain ⟨x, hx, hok⟩ := some_start (HInv.out Hn0.out i) (by rw [comps_length]; exact HSt.out) H64.out
              rw [comps_length, HSf.out] at hok
              obtain ⟨k, hk, he⟩ := List.mem_iff_getElem.1 hx
              have h65 : starts.length = 65 := rfl
              have := HNo.out k x (by omega) (by rw [List.getElem?_eq_getElem hk, he])
              rw [this] at hok
              cases hok
      · have hin : i = n := by omega
        subst hin
        obtain ⟨ls, hls⟩ : ∃ ls, comps b hs i i = ls := ⟨_, rfl⟩
        have hown := HL.out.own
        rw [hls] at hown
        have hli : ls.length = i := by rw [← hls, comps_length]
        have hll9 : ∀ l ∈ ls, l.length ≤ 20000 := by rw [← hls]; exact comps_len HB.out i
        obtain ⟨A9, c9, hv9, hle9, hat9⟩ := owns_strs hown
        obtain ⟨g9, rfl, _, hg9, hcells9⟩ := hat9 (by have := Hn0.out; omega)
        subst hv9
        have hj := rjoin_c ls g9 c9 wr hcells9 hg9 hle9 (by omega) hll9
        rw [hli] at hj
        have hv : Hid (rleastVal b hs = .tuple #[.string (bs (47 :: 47 :: Lib.join ls [47])), .bool true]) := by
          show rleastVal b hs = _
          rw [rleastVal, Hnn.out, if_neg Hn0.out, leastStr, hls]
          rfl
        have HCw := Lib.hid HL.out.calm
        clear hown hat9 hcells9 hll9 hls hle9
        rw [hli] at HL ⊢
        go_wp2_with (go_at_call 43; refine hj.mono ?_; rintro e w7 ⟨rfl, hc7⟩)
        go_ret2
        exact ⟨by rw [hv.out]; rfl, HC.out.trans (HCw.out.trans hc7)⟩
end Go.Proofs.YtdndfkoklhfffaaDoor
