/- The law StreamLocates: the reference's Locate, the law's walk. -/
import Derived.Test.YtlmclpbkhhgekaaGreatDoorRChk
import Derived.Test.YtlmclpbkhhgekaaGreatDoorAwakeS
import Derived.Test.YtlmclpbkhhgekaaGreatDoorFwd
import Derived.Test.YtlmclpbkhhgekaaGreatDoorAppX
set_option linter.unusedVariables false
set_option linter.unusedSimpArgs false
namespace Go.Proofs.YtlmclpbkhhgekaaGreatDoor
open Go Go.RowKit Sy

theorem join_mem_len {x : Str} : ∀ {ls : List Str}, x ∈ ls → x.length ≤ (Lib.join ls [47]).length
  | [], h => by cases h
  | [y], h => by
    rw [List.mem_singleton] at h
    subst h
    rw [join47_one]
    exact Nat.le_refl _
  | y :: z :: r, h => by
    rw [join47_cons, List.length_append, List.length_cons]
    rcases List.mem_cons.1 h with rfl | h
    · omega
    · have := join_mem_len h
      omega
theorem rmatch_l (p : Pat) (s : Str) (y : Bool) (n c : Nat) (re : Bool) (A : Option Addr) (w : World) (hs : s.length ≤ 10000) (hr : StrsR w A p.parts) (hn : p.parts.length = n) (hre : p.rest = re) (hpc : p.parts.length ≤ c) (hc47 : c ≤ 9223372036854775807) (hM : MaxL w) (hy : matchS p s = y) :
    Calls Tryz.prog 15 #[.agg #[.slice A n c, .bool re], .string (bs s)] w fun e w' => (∃ A' n' c', e = .returned (.tuple #[.slice A' n' c', .bool y])) ∧ Calm w w' := by
  subst hn hre
  refine (rmatch_c p s A c w hs hr hpc hc47 hM).mono fun e w' ⟨h1, h2⟩ => ?_
  rcases h1 with ⟨h3, A', c', h4, _⟩ | ⟨h3, h4⟩
  · rw [hy] at h3
    subst h3
    exact ⟨⟨_, _, _, h4⟩, h2⟩
  · rw [hy] at h3
    subst h3
    exact ⟨⟨_, _, _, h4⟩, h2⟩
/-- No line. -/
def zl : Line := ⟨0, ⟨[], false⟩, ⟨[], false⟩⟩
def arrL (a : Pl) (x : Line) : Array Value := #[.int .i64 x.kind, .slice a.AL x.path.parts.length a.cl, .bool x.path.rest, .slice a.AR x.frm.parts.length a.cr, .bool x.frm.rest]
theorem arrL_box {W : World} {B : Nat} {a : Pl} {x : Line} {t : TypeId} {κ : Int} {np nf : Nat} {rp rf : Bool} (h : Held W B (arrL a x) t) (h0 : x.kind = κ) (h1 : x.path.parts.length = np) (h2 : x.frm.parts.length = nf) (h3 : x.path.rest = rp) (h4 : x.frm.rest = rf) : BoxL W B a κ np nf rp rf := by
  subst h0 h1 h2 h3 h4
  exact ⟨h.lt, h.cell rfl, h.cell rfl, h.cell rfl, h.cell rfl, h.cell rfl⟩
theorem Held.set5 {W : World} {B : Nat} {a a' : Pl} {x x' : Line} {t : TypeId} {κ : Int} {np nf : Nat} {rp rf : Bool} (h : Held W B (arrL a x) t) (h0 : x'.kind = κ) (h1 : x'.path.parts.length = np) (h2 : x'.frm.parts.length = nf) (h3 : x'.path.rest = rp) (h4 : x'.frm.rest = rf) :
    Held (((((W.setCell ⟨B, 0, none⟩ (.int .i64 κ)).setCell ⟨B, 1, none⟩ (.slice a'.AL np a'.cl)).setCell ⟨B, 2, none⟩ (.bool rp)).setCell ⟨B, 3, none⟩ (.slice a'.AR nf a'.cr)).setCell ⟨B, 4, none⟩ (.bool rf)) B (arrL a' x') t := by
  subst h0 h1 h2 h3 h4
  have := ((((h.set 0 (.int .i64 x'.kind)).set 1 (.slice a'.AL x'.path.parts.length a'.cl)).set 2 (.bool x'.path.rest)).set 3 (.slice a'.AR x'.frm.parts.length a'.cr)).set 4 (.bool x'.frm.rest)
  simpa [arrL] using this
theorem calm_set5 {w0 W : World} {B : Nat} (h : Calm w0 W) (hB : w0.heap.size ≤ B) (u0 u1 u2 u3 u4 : Value) : Calm w0 (((((W.setCell ⟨B, 0, none⟩ u0).setCell ⟨B, 1, none⟩ u1).setCell ⟨B, 2, none⟩ u2).setCell ⟨B, 3, none⟩ u3).setCell ⟨B, 4, none⟩ u4) :=
  Below.setCell (Below.setCell (Below.setCell (Below.setCell (Below.setCell h (p := ⟨B, 0, none⟩) hB _) (p := ⟨B, 1, none⟩) hB _) (p := ⟨B, 2, none⟩) hB _) (p := ⟨B, 3, none⟩) hB _) (p := ⟨B, 4, none⟩) hB _
theorem my_stop {p : Prop} (h : Hid p) : p := h.out
def encS (x : Str) : List Value := [.string (bs x)]
theorem encS_len (x : Str) : (encS x).length = 1 := rfl
theorem encS_one (x : Str) : ∀ u ∈ encS x, u.oneCell' = true := by simp [encS, Value.oneCell']
theorem encS_own (W : World) (x : Str) : OwnX encS 1 9 W (W.alloc (.cells #[.string (bs x)] 9)) (.slice (some ⟨W.heap.size, 0, none⟩) 1 1) [x] :=
  ⟨(Calm.refl W).alloc _, World.ownsRow_lit W #[.string (bs x)] 1 (Nat.le_refl _) (by decide) rfl⟩
theorem decLine_yes {ls : List Line} {s : Str} {k : Nat} {x : Line} (h : ls[k]? = some x) (hm : matchS x.path s = true) : decLine (ls.take (k + 1)) s = some x := by
  obtain ⟨hlt, rfl⟩ := List.getElem?_eq_some_iff.1 h
  rw [List.take_succ_eq_append_getElem hlt, decLine_snoc, if_pos hm]
theorem decLine_no {ls : List Line} {s : Str} {k : Nat} {x : Line} (h : ls[k]? = some x) (hm : matchS x.path s = false) : decLine (ls.take (k + 1)) s = decLine (ls.take k) s := by
  obtain ⟨hlt, rfl⟩ := List.getElem?_eq_some_iff.1 h
  rw [List.take_succ_eq_append_getElem hlt, decLine_snoc, if_neg (by rw [hm]; decide)]

/-- What the reference's Locate says of a stream whose parent sees u. -/
def rlocV (s : Strm) (c : Str) (u : Int × Str) : Int × Str := if pathOf c = none then (0, []) else seeStep s c u
theorem decLine_nopath {ls : List Line} {c : Str} (h : pathOf c = none) : decLine ls c = none := decLine_nil fun j y _ => by
  unfold matchS
  rw [h]

/-- The line that decides so far, in the box at B. -/
structure LineBox (w4 wr : World) (B : Nat) (ls : List Line) (c : Str) (k : Nat) : Prop where
  calm : Calm w4 wr
  held : ∃ a, Held wr B (arrL a ((decLine (ls.take k) c).getD zl)) 39 ∧ ∀ x, decLine (ls.take k) c = some x → RuleU w4 a x.rule ∧ x ∈ ls

theorem readS_tail {w : World} {g : Nat} {x : Str} {r : List Str} (h : StrsG w (some ⟨g, 0, none⟩) (x :: r)) : ReadX encS 1 w (some ⟨g, 1, none⟩) r := fun _ => by
  obtain ⟨b, o, e, hb, hk⟩ := h.at_ (by simp)
  obtain ⟨rfl, rfl⟩ : g = b ∧ 0 = o := by simpa using e
  refine ⟨g, 1, rfl, hb, fun k y hy i u hu => ?_⟩
  match i, hu with
  | 0, hu =>
    obtain rfl := Option.some.inj hu
    have := hk (k + 1) y (by simpa using hy)
    have e2 : 0 + (k + 1) = 1 + k * 1 + 0 := by omega
    rw [← e2]
    exact this
  | i + 1, hu => simp [encS] at hu
theorem OwnX.names {w0 w : World} {v : Value} {ls : List Str} {L : Nat} (h : OwnX encS 1 9 w0 w v ls) (hL : ls.length = L) (h0 : 0 < L) : ∃ g c, v = .slice (some ⟨g, 0, none⟩) L c ∧ L ≤ c ∧ g < w.heap.size ∧ ∀ (j : Nat) (l : Str), ls[j]? = some l → w.cell? ⟨g, j, none⟩ = some (.string (bs l)) := by
  rcases h.row encS_len with ⟨_, e⟩ | ⟨g, c, e, h1, h2, _, hr⟩
  · subst e
    simp at hL
    omega
  · rw [hL] at e h1
    refine ⟨g, c, e, h1, hr.lt, fun j l hl => ?_⟩
    have := hr.cell j l hl 0 _ rfl
    have e2 : 0 + j * 1 + 0 = j := by omega
    rw [e2] at this
    exact this
/-- What Path hands back. -/
def PathEnd (q : Option (List Str)) (m : Nat) (ok : Bool) (e : Ending) (w' : World) : Prop := ∃ A2, e = .returned (.tuple #[.slice A2 m m, .bool ok]) ∧ ∀ l, q = some l → ∃ g, A2 = some ⟨g, 0, none⟩ ∧ StrsG w' A2 l
theorem rpath_q (p : Str) (q : Option (List Str)) (m : Nat) (ok : Bool) (w : World) (hp : p.length ≤ 3000000) (hM : MaxL w) (hq : pathOf p = q) (hm : (q.getD []).length = m) (ho : q.isSome = ok) :
    Calls Tryz.prog 14 #[.string (bs p)] w fun e w' => PathEnd q m ok e w' ∧ Calm w w' := by
  subst hm ho
  cases q with
  | none => exact (rpath_no p w hp hM hq).mono fun e w' ⟨h1, h2⟩ => ⟨⟨none, h1, fun l h => by cases h⟩, h2⟩
  | some l => exact (rpath_yes p l w hp hM hq).mono fun e w' ⟨h1, h2, h3⟩ => ⟨⟨_, h1, fun l' h => by cases h; exact ⟨_, rfl, h3⟩⟩, h2⟩

set_option maxRecDepth 100000 in
set_option maxHeartbeats 16000000 in
theorem rloc_step (ss : List Strm) (A : Option Addr) (n c i : Nat) (s nm : Str) (po : Option Nat) (u : Int × Str) (w : World) (hs : StrmsU w A ss) (hn : ss.length = n) (hi : i < n) (hg : Sy.Good ss) (hsm : SmallSS ss) (hpo : parentI ss i = po) (hsl : s.length ≤ 10000) (hM : MaxL w)
    (hu0 : po = none → u = (1, [])) (hu : u.1 = 0 ∨ u.1 = 1 ∨ u.1 = 2 ∨ u.1 = 3) (huz : u.1 = 0 → u.2 = []) (hnm : (strm ss i).name = nm)
    (KU : Hid (∀ W, Calm w W → underV s = true → po ≠ none → Calls Tryz.prog 8 #[.slice A n c, .string (bs (strm ss i).parent), .string (bs s)] W fun e w' => e = .returned (.tuple #[.int .i64 u.1, .string (bs u.2)]) ∧ Calm W w')) :
    Calls Tryz.prog 8 #[.slice A n c, .string (bs nm), .string (bs s)] w fun e w' => e = .returned (.tuple #[.int .i64 (rlocV (strm ss i) s u).1, .string (bs (rlocV (strm ss i) s u).2)]) ∧ Calm w w' := by
  have hlen := hs.len
  rw [hn] at hlen
  have hil : i < ss.length := by rw [hn]; exact hi
  obtain ⟨b, o, t, PA, pc, rfl, hb, hr, hat, hsu⟩ := hs.get (k := i) hil
  have ht := strm_at hr
  rw [ht] at hnm KU ⊢
  obtain ⟨pa, hpa⟩ : ∃ pa, t.parent = pa := ⟨_, rfl⟩
  obtain ⟨np, hnp⟩ : ∃ np, t.paths.length = np := ⟨_, rfl⟩
  have hc0 := hat.c0
  have hc1 := hat.c1
  have hc2 := hat.c2
  rw [hnm] at hc0
  rw [hpa] at hc1 KU
  rw [hnp] at hc2
  have HCs := Lib.hid (And.intro hc0 (And.intro hc1 (And.intro hc2 hb)))
  have hnm24 : nm.length ≤ 24 := by rw [← hnm, ← ht]; exact (ownErr_zero (hg.own i hil)).2.1
  have hnp12 : np ≤ 12 := by rw [← hnp, ← ht]; exact (ownErr_zero (hg.own i hil)).2.2.2.2.2
  have HLo : Hid (∀ x ∈ t.paths, lineOk x = true) := by
    have := (ownErr_zero (hg.own i hil)).2.2.2.2.1
    rw [ht] at this
    exact List.all_eq_true.1 this
  have HSx : Hid (∀ x ∈ t.paths, SmallV x.rule) := hsm t (List.mem_of_getElem? hr)
  have HPo : Hid (pa = [] ↔ po = none) := by
    show _ ↔ _
    rw [← hpo, ← hpa, ← ht]
    constructor
    · exact fun e => parentI_main e
    · intro e
      exact Classical.byContradiction fun hne => by
        have := hg.par i hil
        simp [parErr, e, hne] at this
  have K1 : Hid (∀ W, Calm w W → Calls Tryz.prog 13 #[.slice (some ⟨b, o, none⟩) n c, .string (bs nm)] W fun e w' => e = .returned (.int .i64 (i : Nat)) ∧ Calm W w') := fun W hW => by
    have := rfind_c ss nm (some ⟨b, o, none⟩) n c W (hs.calm hW) hn
    rw [← hnm, ← ht, hg.find hil, ht, hnm] at this
    exact this
  obtain ⟨q, hq⟩ : ∃ q, pathOf s = q := ⟨_, rfl⟩
  obtain ⟨m, hm⟩ : ∃ m, (q.getD []).length = m := ⟨_, rfl⟩
  obtain ⟨ok, hok⟩ : ∃ ok, q.isSome = ok := ⟨_, rfl⟩
  have KPa := rpath_q s q m ok w (by omega) hM hq hm hok
  have hml : m ≤ 10001 := by
    rw [← hm]
    cases q with
    | none => simp
    | some l => have := path_len hq; simp; omega
  have HQ := Lib.hid hq
  have HMm := Lib.hid hm
  have HOk := Lib.hid hok
  have HNp := Lib.hid hnp
  have HNm := Lib.hid hnm
  have HMx := Lib.hid hM
  have HLs := Lib.hid hsu.lines
  have HU0 := Lib.hid hu0
  have HU := Lib.hid hu
  have HUz := Lib.hid huz
  obtain ⟨u1, u2⟩ := u
  simp only at KU HU HUz
  have hss := bs_size s
  have hnmsz := bs_size nm
  clear hs hn hil hr hat hsu ht hpa hnp hc0 hc1 hc2 hb hg hsm hpo hM hu0 hu huz hnm hq hm hok
  go_enter Tryz.func8, Tryz.ntmps8
  go_wp2_with (first
    | (go_at_call 14; refine KPa.mono ?_; rintro e w2 ⟨⟨A2, rfl, hpath⟩, hc2⟩)
    | (go_at_call 13; refine (K1.out w2 hc2).mono ?_; rintro e w3 ⟨rfl, hc3⟩; have e0 := Calm.at_ (hc2.trans hc3) HCs.out.1 HCs.out.2.2.2; have e1 := Calm.at_ (hc2.trans hc3) HCs.out.2.1 HCs.out.2.2.2; have e2 := Calm.at_ (hc2.trans hc3) HCs.out.2.2.1 HCs.out.2.2.2))
  obtain ⟨w4, hw4⟩ : ∃ w4, w4 = w3.alloc (.cells #[.string (bs nm), .string (bs pa), .slice PA np pc] 34) := ⟨_, rfl⟩
  rw [← hw4]
  have hbs4 : BoxS w4 w3.heap.size nm pa PA np pc := by rw [hw4]; exact BoxS.new w3 nm pa PA np pc
  have hsz4 : w4.heap.size = w3.heap.size + 1 := by rw [hw4]; simp
  have hc4 : Calm w3 w4 := by rw [hw4]; exact (Calm.refl w3).alloc _
  have HW4 := Lib.hid hw4
  have HB4 := Lib.hid hbs4
  have HSz := Lib.hid hsz4
  have HC24 : Hid (Calm w2 w4) := hc3.trans hc4
  have HCA : Hid (Calm w w4) := hc2.trans (hc3.trans hc4)
  have HPth := Lib.hid hpath
  have HL4 := Lib.hid (HLs.out.calm HCA.out)
  clear hw4 hbs4 hsz4 hc4 e0 e1 e2 hpath KPa hc2 hc3
  go_loopw [35] (fun q wr => ∃ k, k ≤ np ∧ q = .int .i64 (k : Nat) ∧ Hid (LineBox w4 wr (w3.heap.size + 1) t.paths s k)) (fun q _ => np - (intOf q).toNat)
  case atStart =>
    refine ⟨0, Nat.zero_le _, rfl, (Calm.refl _).alloc _, ⟨⟨none, 0, none, 0⟩, ?_, fun x hx => by cases hx⟩⟩
    have := Held.new w4 (arrL ⟨none, 0, none, 0⟩ zl) 39
    rw [HSz.out] at this
    exact this
  case round =>
    obtain ⟨k, hk, rfl, HLb⟩ := hrel
    obtain ⟨wq, rfl⟩ : ∃ wq, wq = wr := ⟨_, rfl⟩
    obtain ⟨aH, hH, hHr⟩ := HLb.out.held
    have HCq := Lib.hid HLb.out.calm
    have HH := Lib.hid hH
    have HHr := Lib.hid hHr
    clear hH hHr HLb
    have k2 := (HB4.out.calm HCq.out).c2
    by_cases hlt : k < np
    · obtain ⟨b', o', x, a, rfl, hb', hx, hxa, hru⟩ := HL4.out.get (k := k) (by rw [HNp.out]; exact hlt)
      have hxa := hxa.calm HCq.out hb'
      have d0 := hxa.c0
      have d1 := hxa.c1
      have d2 := hxa.c2
      have d3 := hxa.c3
      have d4 := hxa.c4
      obtain ⟨κ, h0⟩ : ∃ κ, x.kind = κ := ⟨_, rfl⟩
      obtain ⟨npp, h1⟩ : ∃ npp, x.path.parts.length = npp := ⟨_, rfl⟩
      obtain ⟨nf, h2⟩ : ∃ nf, x.frm.parts.length = nf := ⟨_, rfl⟩
      obtain ⟨rp, h3⟩ : ∃ rp, x.path.rest = rp := ⟨_, rfl⟩
      obtain ⟨rf, h4⟩ : ∃ rf, x.frm.rest = rf := ⟨_, rfl⟩
      obtain ⟨y, hy⟩ : ∃ y, matchS x.path s = y := ⟨_, rfl⟩
      have hsv := HSx.out x (List.mem_of_getElem? hx)
      have KM : Hid (∀ W, Calm wq W → Calls Tryz.prog 15 #[.agg #[.slice a.AL npp a.cl, .bool rp], .string (bs s)] W fun e w' => (∃ A' n' c', e = .returned (.tuple #[.slice A' n' c', .bool y])) ∧ Calm W w') := fun W hW =>
        rmatch_l x.path s y npp a.cl rp a.AL W hsl ((hru.calm (HCq.out.trans hW)).lr.toR (by have := hsv.lp; show x.path.parts.length ≤ _; exact Nat.le_trans this (by decide)) (fun l hl => by have := hsv.ls l hl; omega)) h1 h3 hru.lroom hru.lcap (HMx.out.calm (HCA.out.trans (HCq.out.trans hW))) hy
      rw [h0] at d0
      rw [h1] at d1
      rw [h3] at d2
      rw [h2] at d3
      rw [h4] at d4
      have HX := Lib.hid hx
      have HXf := Lib.hid (And.intro h0 (And.intro h1 (And.intro h2 (And.intro h3 h4))))
      have HRu := Lib.hid hru
      have HY := Lib.hid hy
      clear hxa hru h0 h1 h2 h3 h4 hx hy hsv
      have hltB : w3.heap.size + 1 < wq.heap.size := HH.out.lt
      cases y with
      | true =>
        go_wp2_with (go_at_call 15; refine (KM.out _ ((Calm.refl _).alloc _)).mono ?_; rintro e w6 ⟨⟨A6, n6, c6, rfl⟩, hc6⟩; have hb6 := (BoxL.new wq a κ npp nf rp rf).calm hc6; have z0 := hb6.c0; have z1 := hb6.c1; have z2 := hb6.c2; have z3 := hb6.c3; have z4 := hb6.c4; have hH6 := HH.out.calm (((Calm.refl wq).alloc _).trans hc6); have f0 := hH6.frozen 0; have f1 := hH6.frozen 1; have f2 := hH6.frozen 2; have f3 := hH6.frozen 3; have f4 := hH6.frozen 4; have q0 := hH6.cell (i := 0) rfl; have q1 := hH6.cell (i := 1) rfl; have q2 := hH6.cell (i := 2) rfl; have q3 := hH6.cell (i := 3) rfl; have q4 := hH6.cell (i := 4) rfl)
        go_roundw
        case rel =>
          refine ⟨k + 1, by omega, by go_num, calm_set5 (HCq.out.trans (((Calm.refl wq).alloc _).trans hc6)) (by rw [HSz.out]; exact Nat.le_refl _) _ _ _ _ _, a, ?_, ?_⟩
          · rw [decLine_yes HX.out HY.out]
            exact Held.set5 hH6 HXf.out.1 HXf.out.2.1 HXf.out.2.2.1 HXf.out.2.2.2.1 HXf.out.2.2.2.2
          · rw [decLine_yes HX.out HY.out]
            intro x' hx'
            cases hx'
            exact ⟨HRu.out, List.mem_of_getElem? HX.out⟩
        case measure => simp [intOf]; omega
      | false =>
        go_wp2_with (go_at_call 15; refine (KM.out _ ((Calm.refl _).alloc _)).mono ?_; rintro e w6 ⟨⟨A6, n6, c6, rfl⟩, hc6⟩)
        go_roundw
        case rel =>
          refine ⟨k + 1, by omega, by go_num, HCq.out.trans (((Calm.refl wq).alloc _).trans hc6), aH, ?_, ?_⟩
          · rw [decLine_no HX.out HY.out]
            exact HH.out.calm (((Calm.refl wq).alloc _).trans hc6)
          · rw [decLine_no HX.out HY.out]
            exact HHr.out
        case measure => simp [intOf]; omega
    · obtain rfl : k = np := by omega
      rw [List.take_of_length_le (by rw [HNp.out]; exact Nat.le_refl _)] at HH HHr
      obtain ⟨dl, hdl⟩ : ∃ dl, decLine t.paths s = dl := ⟨_, rfl⟩
      rw [hdl] at HH HHr
      have HDl := Lib.hid hdl
      clear hdl
      have HCw : Hid (Calm w wq) := HCA.out.trans HCq.out
      cases q with
      | none =>
        obtain rfl : false = ok := HOk.out
        have hE : Hid (rlocV t s (u1, u2) = (0, [])) := by
          show _ = _
          rw [rlocV, if_pos HQ.out]
        go_wp2_with fail
        go_ret2
        exact ⟨by rw [hE.out]; rfl, HCw.out⟩
      | some l =>
        obtain rfl : true = ok := HOk.out
        have hRl : Hid (rlocV t s (u1, u2) = seeStep t s (u1, u2)) := by
          show _ = _
          rw [rlocV, if_neg (by rw [HQ.out]; simp)]
        cases dl with
        | none =>
          have hE : Hid (rlocV t s (u1, u2) = (0, [])) := by
            show _ = _
            rw [hRl.out, seeStep_none HDl.out]
          have z0 : wq.cell? ⟨w3.heap.size + 1, 0, none⟩ = some (.int .i64 0) := HH.out.cell rfl
          go_wp2_with fail
          go_ret2
          exact ⟨by rw [hE.out]; rfl, HCw.out⟩
        | some x =>
          obtain ⟨hmem, hmx⟩ := decLine_some HDl.out
          have hlok := HLo.out x hmem
          have hund := line_under hlok hmx
          obtain ⟨hrux, _⟩ := HHr.out x rfl
          have hsv := HSx.out x hmem
          obtain ⟨r, hr0, hrc, hrp, hjo⟩ := under_own hund nm
          obtain rfl : l = viewN :: r := by
            have := HQ.out
            rw [hrp] at this
            exact (Option.some.inj this).symm
          have hmr : m = r.length + 1 := HMm.out.symm
          obtain ⟨g, rfl, hpg⟩ := HPth.out _ rfl
          have HRd : Hid (∀ W, Calm w4 W → ReadX encS 1 W (some ⟨g, 1, none⟩) r) := fun W hW => (readS_tail hpg).calm (HC24.out.trans hW)
          obtain ⟨ls, hls⟩ : ∃ ls, [nm] ++ r = ls := ⟨_, rfl⟩
          obtain ⟨L, hL⟩ : ∃ L, ls.length = L := ⟨_, rfl⟩
          have hLr : L = r.length + 1 := by rw [← hL, ← hls]; simp
          have hjs : (47 :: 47 :: nm ++ s.drop 6 : Str) = 47 :: 47 :: Lib.join ls [47] := by rw [hjo, ← hls]; rfl
          have hK : ∀ l ∈ ls, l.length ≤ 20000 := fun l hl => by
            rw [← hls] at hl
            rcases List.mem_append.1 hl with h | h
            · rw [List.mem_singleton] at h
              subst h
              omega
            · have h1 : pathOf s = some (viewN :: r) := hrp
              have h2 := (pathOf_some h1).2.2
              have h3 : l ∈ viewN :: r := List.mem_cons_of_mem _ h
              have h4 := join_mem_len h3
              rw [h2] at hsl
              simp [pathStr] at hsl
              omega
          have KJ : Hid (∀ (W : World) (g c : Nat), L ≤ c → g < W.heap.size → (∀ (j : Nat) (l : Str), ls[j]? = some l → W.cell? ⟨g, j, none⟩ = some (.string (bs l))) → Calls Tryz.prog 17 #[.slice (some ⟨g, 0, none⟩) L c] W fun e w' => e = .returned (.string (bs (47 :: 47 :: nm ++ s.drop 6))) ∧ Calm W w') := fun W g c h1 h2 h3 => by
            have := rjoin_c ls g c W h3 h2 (by rw [hL]; exact h1) (by rw [hL]; omega) hK
            rw [hL, ← hjs] at this
            exact this
          obtain ⟨κ, h0⟩ : ∃ κ, x.kind = κ := ⟨_, rfl⟩
          obtain ⟨npp, h1⟩ : ∃ npp, x.path.parts.length = npp := ⟨_, rfl⟩
          obtain ⟨nf, h2⟩ : ∃ nf, x.frm.parts.length = nf := ⟨_, rfl⟩
          obtain ⟨rp, h3⟩ : ∃ rp, x.path.rest = rp := ⟨_, rfl⟩
          obtain ⟨rf, h4⟩ : ∃ rf, x.frm.rest = rf := ⟨_, rfl⟩
          have HBl : Hid (BoxL wq (w3.heap.size + 1) aH κ npp nf rp rf) := arrL_box HH.out h0 h1 h2 h3 h4
          have HXf := Lib.hid (And.intro h0 (And.intro h1 (And.intro h2 (And.intro h3 h4))))
          obtain ⟨fo, hfo⟩ : ∃ fo, fwd x.rule s = fo := ⟨_, rfl⟩
          have KF : Hid (∀ W, Calm wq W → Calls Tryz.prog 16 #[.agg #[.bool false, .slice aH.AL npp aH.cl, .bool rp, .slice aH.AR nf aH.cr, .bool rf], .string (bs s)] W fun e w' => e = .returned (.tuple #[.string (bs (fo.getD [])), .bool fo.isSome]) ∧ Calm W w') := fun W hW => by
            have := rfwd_c x.rule aH s W (hrux.calm (HCq.out.trans hW)) hsv hsl (HMx.out.calm (HCw.out.trans hW))
            unfold fwdV ruleV at this
            rw [hfo, show x.rule.left.parts.length = npp from h1, show x.rule.right.parts.length = nf from h2, show x.rule.left.rest = rp from h3, show x.rule.right.rest = rf from h4] at this
            exact this
          have HFo := Lib.hid hfo
          have HUnd := Lib.hid hund
          have hkind : κ = 1 ∨ κ = 2 ∨ κ = 3 ∨ κ = 4 := by
            by_cases e : x.kind = 3
            · rw [h0] at e; exact .inr (.inr (.inl e))
            · have := lineOk_other hlok e
              rw [h0] at this
              rcases this with e | e | e
              · exact .inl e
              · exact .inr (.inl e)
              · exact .inr (.inr (.inr e))
          have HL := Lib.hid hL
          have HLs2 := Lib.hid hls
          have hL0 : Hid (0 < L) := by show 0 < L; omega
          have z0 := HBl.out.c0
          have z1 := HBl.out.c1
          have z2 := HBl.out.c2
          have z3 := HBl.out.c3
          have z4 := HBl.out.c4
          have k1 := (HB4.out.calm HCq.out).c1
          have hm1 : (1 : Int) ≤ (m : Int) := by omega
          have hr1 : 0 < r.length := by cases r with | nil => exact absurd rfl hr0 | cons y tl => simp
          have hmb : 1 ≤ m := by omega
          have hm2 : 2 ≤ m := by omega
          have hmn1 : ¬ m = 1 := by omega
          have hmn2 : ¬ m - 1 = 0 := by omega
          have hmn3 : ¬ m ≤ 1 := by omega
          have hmn4 : 1 < m := by omega
          have hrl : Hid (r.length = m - 1) := by show _ = _; omega
          have hrL : Hid ([nm].length + (m - 1) ≤ 2000000) := by show _ ≤ _; simp; omega
          clear hr1
          clear hmem hmx hlok hund hrux hsv hr0 hrc hrp hjo hpg hls hL hjs hK h0 h1 h2 h3 h4 hfo HH HHr hmr hLr HMm
          by_cases hκ4 : κ = 4
          · subst hκ4
            have hE : Hid (rlocV t s (u1, u2) = (0, [])) := by
              show _ = _
              rw [hRl.out, seeStep_excl HDl.out HXf.out.1]
            go_wp2_with fail
            go_ret2
            exact ⟨by rw [hE.out]; rfl, HCw.out⟩
          · by_cases hκ3 : κ = 3
            · subst hκ3
              cases po with
              | none =>
                obtain rfl : pa = [] := HPo.out.2 rfl
                obtain ⟨rfl, rfl⟩ : u1 = 1 ∧ u2 = [] := by simpa using HU0.out rfl
                have hE : Hid (rlocV t s ((1 : Int), []) = (3, fo.getD [])) := by
                  show _ = _
                  rw [hRl.out, seeStep_imp HDl.out HXf.out.1 (by decide) (by decide), HFo.out]
                have e0 : bs [] = ⟨#[]⟩ := rfl
                rw [e0] at k1
                go_wp2_with (go_at_call 16; refine (KF.out _ (by first | exact Calm.refl _ | exact (Calm.refl _).alloc _)).mono ?_; rintro e w9 ⟨rfl, hc9⟩)
                go_ret2
                exact ⟨by rw [hE.out]; rfl, HCw.out.trans hc9⟩
              | some p =>
                have hpn : pa ≠ [] := fun e => by have := HPo.out.1 e; cases this
                have hpe : pa.isEmpty = false := by cases pa with | nil => exact absurd rfl hpn | cons y tl => rfl
                have KU2 : Hid (∀ W, Calm w W → Calls Tryz.prog 8 #[.slice (some ⟨b, o, none⟩) n c, .string (bs pa), .string (bs s)] W fun e w' => e = .returned (.tuple #[.int .i64 u1, .string (bs u2)]) ∧ Calm W w') := fun W hW => KU.out W hW HUnd.out (by simp)
                by_cases hu0 : u1 = 0
                · subst hu0
                  have hE : Hid (rlocV t s ((0 : Int), u2) = (0, [])) := by
                    show _ = _
                    rw [hRl.out]
                    simp [seeStep, HDl.out]
                  have hu2 : Hid (u2 = []) := HUz.out rfl
                  go_wp2_with (go_at_call 8; refine (KU2.out wq HCw.out).mono ?_; rintro e w8 ⟨rfl, hc8⟩; have y0 := (HBl.out.calm hc8).c0)
                  go_ret2
                  exact ⟨by rw [hE.out, hu2.out]; rfl, HCw.out.trans hc8⟩
                · by_cases hu3 : u1 = 3
                  · subst hu3
                    have hE : Hid (rlocV t s ((3 : Int), u2) = (3, u2)) := by
                      show _ = _
                      rw [hRl.out, seeStep_up HDl.out (by rw [HXf.out.1]; decide) rfl]
                    go_wp2_with (go_at_call 8; refine (KU2.out wq HCw.out).mono ?_; rintro e w8 ⟨rfl, hc8⟩)
                    go_ret2
                    exact ⟨by rw [hE.out]; rfl, HCw.out.trans hc8⟩
                  · have hE : Hid (rlocV t s (u1, u2) = (3, fo.getD [])) := by
                      show _ = _
                      rw [hRl.out, seeStep_imp HDl.out HXf.out.1 hu0 hu3, HFo.out]
                    have hb0 : (u1 == 0) = false := by simpa using hu0
                    have hb3 : (u1 == 3) = false := by simpa using hu3
                    clear hu0 hu3
                    go_wp2_with (first
                      | (go_at_call 8; refine (KU2.out wq HCw.out).mono ?_; rintro e w8 ⟨rfl, hc8⟩; have y0 := (HBl.out.calm hc8).c0; have y1 := (HBl.out.calm hc8).c1; have y2 := (HBl.out.calm hc8).c2; have y3 := (HBl.out.calm hc8).c3; have y4 := (HBl.out.calm hc8).c4)
                      | (go_at_call 16; refine (KF.out _ (by first | exact hc8 | exact hc8.alloc _)).mono ?_; rintro e w9 ⟨rfl, hc9⟩))
                    go_ret2
                    exact ⟨by rw [hE.out]; rfl, HCw.out.trans (hc8.trans hc9)⟩
            · have hκb3 : (κ == 3) = false := by simpa using hκ3
              have hκb4 : (κ == 4) = false := by simpa using hκ4
              cases po with
              | none =>
                obtain rfl : pa = [] := HPo.out.2 rfl
                obtain ⟨rfl, rfl⟩ : u1 = 1 ∧ u2 = [] := by simpa using HU0.out rfl
                have e0 : bs [] = ⟨#[]⟩ := rfl
                rw [e0] at k1
                have hE : Hid (rlocV t s ((1 : Int), []) = (κ, 47 :: 47 :: nm ++ s.drop 6)) := by
                  show _ = _
                  rw [hRl.out, seeStep_own HDl.out (by rw [HXf.out.1]; exact hκ3) (by rw [HXf.out.1]; exact hκ4) (by decide) (by decide), HXf.out.1, HNm.out]
                  have : κ = 1 ∨ κ = 2 := by rcases hkind with e | e | e | e; exact .inl e; exact .inr e; exact absurd e hκ3; exact absurd e hκ4
                  rcases this with rfl | rfl <;> rfl
                have hκb0 : (κ == 0) = false := by rcases hkind with rfl | rfl | rfl | rfl <;> rfl
                by_cases hκ1 : κ = 1
                · subst hκ1
                  clear hκ3 hκ4 hkind
                  go_wp2_with (first
                    | (at_builtin; refine wpList_append_xs (enc := encS) (K := 1) (T := 9) Tryz.underlying35 info_strE rfl (by decide) (by decide) encS_len encS_one rfl (.tmp 101) (.tmp 103) rfl wq _ [nm] r rfl (encS_own wq nm) _ _ _ rfl hrl.out (HRd.out _ (HCq.out.alloc _)) (by first | exact hrL.out | omega) ?_; intro v9 w9 hown9 hg9; rw [HLs2.out] at hown9; obtain ⟨g9, c9, rfl, h91, h92, h93⟩ := hown9.names HL.out hL0.out)
                    | (go_at_call 17; refine (KJ.out w9 g9 c9 h91 h92 h93).mono ?_; rintro e w10 ⟨rfl, hc10⟩))
                  go_ret2
                  exact ⟨by rw [hE.out]; rfl, HCw.out.trans (hown9.calm.trans hc10)⟩
                · obtain rfl : κ = 2 := by rcases hkind with e | e | e | e; exact absurd e hκ1; exact e; exact absurd e hκ3; exact absurd e hκ4
                  clear hκ3 hκ4 hkind hκ1
                  go_wp2_with (first
                    | (at_builtin; refine wpList_append_xs (enc := encS) (K := 1) (T := 9) Tryz.underlying35 info_strE rfl (by decide) (by decide) encS_len encS_one rfl (.tmp 101) (.tmp 103) rfl wq _ [nm] r rfl (encS_own wq nm) _ _ _ rfl hrl.out (HRd.out _ (HCq.out.alloc _)) (by first | exact hrL.out | omega) ?_; intro v9 w9 hown9 hg9; rw [HLs2.out] at hown9; obtain ⟨g9, c9, rfl, h91, h92, h93⟩ := hown9.names HL.out hL0.out)
                    | (go_at_call 17; refine (KJ.out w9 g9 c9 h91 h92 h93).mono ?_; rintro e w10 ⟨rfl, hc10⟩))
                  go_ret2
                  exact ⟨by rw [hE.out]; rfl, HCw.out.trans (hown9.calm.trans hc10)⟩
              | some p =>
                have hpn : pa ≠ [] := fun e => by have := HPo.out.1 e; cases this
                have hpe : pa.isEmpty = false := by cases pa with | nil => exact absurd rfl hpn | cons y tl => rfl
                have KU2 : Hid (∀ W, Calm w W → Calls Tryz.prog 8 #[.slice (some ⟨b, o, none⟩) n c, .string (bs pa), .string (bs s)] W fun e w' => e = .returned (.tuple #[.int .i64 u1, .string (bs u2)]) ∧ Calm W w') := fun W hW => KU.out W hW HUnd.out (by simp)
                have hκb0 : (κ == 0) = false := by rcases hkind with rfl | rfl | rfl | rfl <;> rfl
                by_cases hu0 : u1 = 0
                · subst hu0
                  have hE : Hid (rlocV t s ((0 : Int), u2) = (0, [])) := by
                    show _ = _
                    rw [hRl.out]
                    simp [seeStep, HDl.out]
                  have hu2 : Hid (u2 = []) := HUz.out rfl
                  go_wp2_with (go_at_call 8; refine (KU2.out wq HCw.out).mono ?_; rintro e w8 ⟨rfl, hc8⟩)
                  go_ret2
                  exact ⟨by rw [hE.out, hu2.out]; rfl, HCw.out.trans hc8⟩
                · by_cases hu3 : u1 = 3
                  · subst hu3
                    have hE : Hid (rlocV t s ((3 : Int), u2) = (3, u2)) := by
                      show _ = _
                      rw [hRl.out, seeStep_up HDl.out (by rw [HXf.out.1]; exact hκ4) rfl]
                    go_wp2_with (go_at_call 8; refine (KU2.out wq HCw.out).mono ?_; rintro e w8 ⟨rfl, hc8⟩)
                    go_ret2
                    exact ⟨by rw [hE.out]; rfl, HCw.out.trans hc8⟩
                  · obtain ⟨kk, hkk⟩ : ∃ kk : Int, (if κ = 1 ∧ u1 = 1 then 1 else 2) = kk := ⟨_, rfl⟩
                    have hE : Hid (rlocV t s (u1, u2) = (kk, 47 :: 47 :: nm ++ s.drop 6)) := by
                      show _ = _
                      rw [hRl.out, seeStep_own HDl.out (by rw [HXf.out.1]; exact hκ3) (by rw [HXf.out.1]; exact hκ4) hu0 hu3, HXf.out.1, HNm.out, hkk]
                    have hb0 : (u1 == 0) = false := by simpa using hu0
                    have hb3 : (u1 == 3) = false := by simpa using hu3
                    have hu12 : u1 = 1 ∨ u1 = 2 := by rcases HU.out with e | e | e | e; exact absurd e hu0; exact .inl e; exact .inr e; exact absurd e hu3
                    have hκ12 : κ = 1 ∨ κ = 2 := by rcases hkind with e | e | e | e; exact .inl e; exact .inr e; exact absurd e hκ3; exact absurd e hκ4
                    clear hu0 hu3 hκ3 hκ4 hkind HU
                    rcases hκ12 with rfl | rfl
                    · obtain rfl : u1 = kk := by rcases hu12 with rfl | rfl <;> exact hkk
                      clear hkk hu12
                      go_wp2_with (first
                        | (go_at_call 8; refine (KU2.out wq HCw.out).mono ?_; rintro e w8 ⟨rfl, hc8⟩)
                        | (at_builtin; refine wpList_append_xs (enc := encS) (K := 1) (T := 9) Tryz.underlying35 info_strE rfl (by decide) (by decide) encS_len encS_one rfl (.tmp 101) (.tmp 103) rfl w8 _ [nm] r rfl (encS_own w8 nm) _ _ _ rfl hrl.out (HRd.out _ ((HCq.out.trans hc8).alloc _)) (by first | exact hrL.out | omega) ?_; intro v9 w9 hown9 hg9; rw [HLs2.out] at hown9; obtain ⟨g9, c9, rfl, h91, h92, h93⟩ := hown9.names HL.out hL0.out)
                        | (go_at_call 17; refine (KJ.out w9 g9 c9 h91 h92 h93).mono ?_; rintro e w10 ⟨rfl, hc10⟩))
                      go_ret2
                      exact ⟨by rw [hE.out]; rfl, HCw.out.trans (hc8.trans (hown9.calm.trans hc10))⟩
                    · obtain rfl : 2 = kk := by rw [← hkk, if_neg (fun h => absurd h.1 (by decide))]
                      clear hkk hu12
                      go_wp2_with (first
                        | (go_at_call 8; refine (KU2.out wq HCw.out).mono ?_; rintro e w8 ⟨rfl, hc8⟩)
                        | (at_builtin; refine wpList_append_xs (enc := encS) (K := 1) (T := 9) Tryz.underlying35 info_strE rfl (by decide) (by decide) encS_len encS_one rfl (.tmp 101) (.tmp 103) rfl w8 _ [nm] r rfl (encS_own w8 nm) _ _ _ rfl hrl.out (HRd.out _ ((HCq.out.trans hc8).alloc _)) (by first | exact hrL.out | omega) ?_; intro v9 w9 hown9 hg9; rw [HLs2.out] at hown9; obtain ⟨g9, c9, rfl, h91, h92, h93⟩ := hown9.names HL.out hL0.out)
                        | (go_at_call 17; refine (KJ.out w9 g9 c9 h91 h92 h93).mono ?_; rintro e w10 ⟨rfl, hc10⟩))
                      go_ret2
                      exact ⟨by rw [hE.out]; rfl, HCw.out.trans (hc8.trans (hown9.calm.trans hc10))⟩

theorem rloc_eq {ss : List Strm} (hg : Sy.Good ss) {i : Nat} (hi : i < ss.length) {s : Str} {u : Int × Str} (he : see ss i s = seeStep (strm ss i) s u) : locI ss i s = rlocV (strm ss i) s u := by
  unfold locI rlocV
  by_cases hu : underV s = true
  · rw [if_pos hu, if_neg, he]
    obtain ⟨r, _, _, h, _⟩ := under_form hu
    rw [h]
    simp
  · rw [if_neg hu]
    by_cases hp : pathOf s = none
    · rw [if_pos hp]
    · rw [if_neg hp, seeStep_none]
      rcases hd : decLine (strm ss i).paths s with _ | x
      · rfl
      · obtain ⟨h1, h2⟩ := decLine_some hd
        exact absurd (line_under (hg.lines hi x h1) h2) hu
theorem parent_name {ss : List Strm} {i p : Nat} (h : parentI ss i = some p) : (strm ss p).name = (strm ss i).parent := by
  unfold parentI at h
  split at h
  · cases h
  · obtain ⟨t, ht, hn, _⟩ := findI_some h
    rw [strm_at ht, hn]

theorem rloc_c (ss : List Strm) (A : Option Addr) (n c i : Nat) (s : Str) (hn : ss.length = n) (hg : Sy.Good ss) (hsm : SmallSS ss) (hsl : s.length ≤ 10000) (hi : i < n) : ∀ w, StrmsU w A ss → MaxL w →
    Calls Tryz.prog 8 #[.slice A n c, .string (bs (strm ss i).name), .string (bs s)] w fun e w' => e = .returned (.tuple #[.int .i64 (locI ss i s).1, .string (bs (locI ss i s).2)]) ∧ Calm w w' := by
  refine hg.above_ind (P := fun i => ∀ w, StrmsU w A ss → MaxL w → Calls Tryz.prog 8 #[.slice A n c, .string (bs (strm ss i).name), .string (bs s)] w fun e w' => e = .returned (.tuple #[.int .i64 (locI ss i s).1, .string (bs (locI ss i s).2)]) ∧ Calm w w') ?_ ?_ i (by omega)
  · intro i hi hp w hs hM
    rw [rloc_eq hg hi (see_none hg hp s)]
    exact rloc_step ss A n c i s _ none (1, []) w hs hn (by omega) hg hsm hp hsl hM (fun _ => rfl) (.inr (.inl rfl)) (fun h => absurd h (by decide)) rfl (fun W _ _ h => absurd rfl h)
  · intro i p hi hp ih w hs hM
    rw [rloc_eq hg hi (see_some hg hp s)]
    refine rloc_step ss A n c i s _ (some p) (see ss p s) w hs hn (by omega) hg hsm hp hsl hM (fun h => by cases h) (see_kind hg (parentI_lt hp) s) (see_zero hg (parentI_lt hp) s) rfl (fun W hW hu _ => ?_)
    have := ih W (hs.calm hW) (hM.calm hW)
    rw [parent_name hp] at this
    unfold locI at this
    rw [if_pos hu] at this
    exact this

theorem locE_bad8 {ss : List Strm} {nm s : Str} {x : Int} (h : readyE ss nm = x) (hx : x ≠ 0) : locE ss nm s = (0, [], x) := by
  subst h
  rw [locE, if_neg hx]
theorem locE_ok8 {ss : List Strm} {nm : Str} (h : readyE ss nm = 0) : ∃ i, Sy.Good ss ∧ (strm ss i).name = nm ∧ i < ss.length ∧ ∀ s, locE ss nm s = ((locI ss i s).1, (locI ss i s).2, 0) := by
  have h0 : (strErr ss).2 = 0 := Classical.byContradiction fun hne => by
    rw [ready_bad hne] at h
    exact hne h
  rcases hf : findI ss nm with _ | i
  · rw [ready_none h0 hf] at h
    cases h
  · obtain ⟨t, ht, hn, _⟩ := findI_some hf
    refine ⟨i, good_iff.1 h0, by rw [strm_at ht, hn], findI_lt hf, fun s => ?_⟩
    rw [locE, if_pos h, hf]
    rfl
set_option maxHeartbeats 2000000 in
theorem ready8_c (ss : List Strm) (nm : Str) (A : Option Addr) (n c : Nat) (w : World) (hs : StrmsU w A ss) (hn : ss.length = n) (hle : n ≤ 1000) (hsm : SmallSS ss) :
    Calls Tryz.prog 7 #[.slice A n c, .string (bs nm)] w fun e w' => e = .returned (.int .i64 (readyE ss nm)) ∧ Calm w w' := by
  have K1 := rcheck8_c ss A n c w hs hn hle hsm
  have K2 : Hid (∀ W, Calm w W → Calls Tryz.prog 13 #[.slice A n c, .string (bs nm)] W fun e w' => e = .returned (.int .i64 (oZ (findI ss nm))) ∧ Calm W w') := fun W hW => rfind_c ss nm A n c W (hs.calm hW) hn
  have hE : Hid (readyE ss nm = if (strErr ss).2 ≠ 0 then (strErr ss).2 else if findI ss nm = none then 86 else 0) := rfl
  obtain ⟨a, ha⟩ : ∃ a, (strErr ss).1 = a := ⟨_, rfl⟩
  obtain ⟨x, hx⟩ : ∃ x, (strErr ss).2 = x := ⟨_, rfl⟩
  rw [ha, hx] at K1
  rw [hx] at hE
  clear ha hx hs hn hsm
  by_cases hx0 : x = 0
  · subst hx0
    obtain ⟨o, ho⟩ : ∃ o, findI ss nm = o := ⟨_, rfl⟩
    obtain ⟨z, hz⟩ : ∃ z, oZ o = z := ⟨_, rfl⟩
    rw [ho, hz] at K2
    rw [ho] at hE
    have HZ := Lib.hid hz
    clear ho hz
    cases o with
    | none =>
      obtain rfl : -1 = z := HZ.out
      have hE2 : Hid (readyE ss nm = 86) := hE
      clear hE
      go_enter Tryz.func7, Tryz.ntmps7
      go_wp2_with (first
        | (go_at_call 12; refine K1.mono ?_; rintro e w2 ⟨rfl, hc2⟩)
        | (go_at_call 13; refine (K2.out w2 hc2).mono ?_; rintro e w3 ⟨rfl, hc3⟩))
      go_ret
      exact ⟨ret_int hE2.out.symm, hc2.trans hc3⟩
    | some j =>
      obtain rfl : ((j : Nat) : Int) = z := HZ.out
      have hE2 : Hid (readyE ss nm = 0) := hE
      clear hE
      go_enter Tryz.func7, Tryz.ntmps7
      go_wp2_with (first
        | (go_at_call 12; refine K1.mono ?_; rintro e w2 ⟨rfl, hc2⟩)
        | (go_at_call 13; refine (K2.out w2 hc2).mono ?_; rintro e w3 ⟨rfl, hc3⟩))
      go_ret
      exact ⟨ret_int hE2.out.symm, hc2.trans hc3⟩
  · have hxb : (x != 0) = true := by simpa using hx0
    have hE2 : Hid (readyE ss nm = x) := by show _ = _; rw [hE.out, if_pos hx0]
    clear hE hx0
    go_enter Tryz.func7, Tryz.ntmps7
    go_wp2_with (go_at_call 12; refine K1.mono ?_; rintro e w2 ⟨rfl, hc2⟩)
    go_ret
    exact ⟨ret_int hE2.out.symm, hc2⟩

set_option maxRecDepth 100000 in
set_option maxHeartbeats 4000000 in
theorem strLocates_c (ss : List Strm) (nm s : Str) (A : Option Addr) (n c : Nat) (w : World) (hv : StrmsU w A ss) (hn : ss.length = n) (hnm : nm.length ≤ 1048576) (hsl : s.length ≤ 1048576) (hM : MaxL w) :
    Calls Tryz.prog 3 #[.slice A n c, .string (bs nm), .string (bs s)] w fun e w' => e = .returned (.bool true) ∧ Calm w w' := by
  obtain ⟨y, hy⟩ : ∃ y, smallS ss = y := ⟨_, rfl⟩
  have hsmall := smallS_c ss y A n c w hv hn hy
  have hlen := hv.len
  rw [hn] at hlen
  have hz1 := bs_size s
  have KA : Hid (∀ W, Calm w W → Calls Tryz.prog 5 #[] W fun e w' => e = .returned (.bool true) ∧ Calm W w') := fun W hW => awakeS_c W (hM.calm hW)
  cases y with
  | false =>
    clear hv hn hM hy
    go_enter Tryz.func3, Tryz.ntmps3
    go_wp2_with (first
      | (go_at_call 4; refine hsmall.mono ?_; rintro e w2 ⟨rfl, hc2⟩)
      | (go_at_call 5; refine (KA.out w2 hc2).mono ?_; rintro e w3 ⟨rfl, hc3⟩))
    go_ret
    exact ⟨rfl, hc2.trans hc3⟩
  | true =>
    obtain ⟨hsm, h20⟩ := smallS_small hy
    rw [hn] at h20
    by_cases h1 : 200 < s.length
    · clear hv hn hM hy hsm
      go_enter Tryz.func3, Tryz.ntmps3
      go_wp2_with (first
        | (go_at_call 4; refine hsmall.mono ?_; rintro e w2 ⟨rfl, hc2⟩)
        | (go_at_call 5; refine (KA.out w2 hc2).mono ?_; rintro e w3 ⟨rfl, hc3⟩))
      go_ret
      exact ⟨rfl, hc2.trans hc3⟩
    · have K1 : Hid (∀ W, Calm w W → Calls Tryz.prog 6 #[.slice A n c, .string (bs nm), .string (bs s)] W fun e w' => e = .returned (.tuple #[.int .i64 (locE ss nm s).1, .string (bs (locE ss nm s).2.1), .int .i64 (locE ss nm s).2.2]) ∧ Calm W w') := fun W hW => locate_c ss nm s A n c W (hv.calm hW) hn hnm (by omega) hsm (hM.calm hW)
      have K2 : Hid (∀ W, Calm w W → Calls Tryz.prog 7 #[.slice A n c, .string (bs nm)] W fun e w' => e = .returned (.int .i64 (readyE ss nm)) ∧ Calm W w') := fun W hW => ready8_c ss nm A n c W (hv.calm hW) hn (by omega) hsm
      obtain ⟨x, hx⟩ : ∃ x, readyE ss nm = x := ⟨_, rfl⟩
      rw [hx] at K2
      by_cases hx0 : x = 0
      · subst hx0
        obtain ⟨i, hg, hnm2, hi, hE⟩ := locE_ok8 hx
        rw [hE s] at K1
        have K3 : Hid (∀ W, Calm w W → Calls Tryz.prog 8 #[.slice A n c, .string (bs nm), .string (bs s)] W fun e w' => e = .returned (.tuple #[.int .i64 (locI ss i s).1, .string (bs (locI ss i s).2)]) ∧ Calm W w') := fun W hW => by
          have := rloc_c ss A n c i s hn hg hsm (by omega) (by rw [← hn]; exact hi) W (hv.calm hW) (hM.calm hW)
          rw [hnm2] at this
          exact this
        obtain ⟨k, hk⟩ : ∃ k, (locI ss i s).1 = k := ⟨_, rfl⟩
        obtain ⟨t, ht⟩ : ∃ t, (locI ss i s).2 = t := ⟨_, rfl⟩
        rw [hk, ht] at K1 K3
        clear hv hn hM hy hsm hE hg hnm2 hi hx hk ht hlen h20
        simp only at K1
        go_enter Tryz.func3, Tryz.ntmps3
        go_wp2_with (first
          | (go_at_call 4; refine hsmall.mono ?_; rintro e w2 ⟨rfl, hc2⟩)
          | (go_at_call 6; refine (K1.out w2 hc2).mono ?_; rintro e w3 ⟨rfl, hc3⟩)
          | (go_at_call 7; refine (K2.out w3 (hc2.trans hc3)).mono ?_; rintro e w4 ⟨rfl, hc4⟩)
          | (go_at_call 8; refine (K3.out w4 (hc2.trans (hc3.trans hc4))).mono ?_; rintro e w5 ⟨rfl, hc5⟩)
          | (go_at_call 5; refine (KA.out w5 (hc2.trans (hc3.trans (hc4.trans hc5)))).mono ?_; rintro e w6 ⟨rfl, hc6⟩))
        go_ret
        exact ⟨rfl, hc2.trans (hc3.trans (hc4.trans (hc5.trans hc6)))⟩
      · rw [locE_bad8 hx hx0] at K1
        have hxb : (x != 0) = true := by simpa using hx0
        have e0 : bs [] = ⟨#[]⟩ := rfl
        simp only [e0] at K1
        clear hv hn hM hy hsm hx hx0 hlen h20
        go_enter Tryz.func3, Tryz.ntmps3
        go_wp2_with (first
          | (go_at_call 4; refine hsmall.mono ?_; rintro e w2 ⟨rfl, hc2⟩)
          | (go_at_call 6; refine (K1.out w2 hc2).mono ?_; rintro e w3 ⟨rfl, hc3⟩)
          | (go_at_call 7; refine (K2.out w3 (hc2.trans hc3)).mono ?_; rintro e w4 ⟨rfl, hc4⟩)
          | (go_at_call 5; refine (KA.out w4 (hc2.trans (hc3.trans hc4))).mono ?_; rintro e w5 ⟨rfl, hc5⟩))
        go_ret
        exact ⟨rfl, hc2.trans (hc3.trans (hc4.trans hc5))⟩
end Go.Proofs.YtlmclpbkhhgekaaGreatDoor
