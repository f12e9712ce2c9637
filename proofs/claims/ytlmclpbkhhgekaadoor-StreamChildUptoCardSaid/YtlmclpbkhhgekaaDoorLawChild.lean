/- The law StreamChild: its walk. -/
import Derived.Test.YtlmclpbkhhgekaaDoorLawNar
import Derived.Test.YtlmclpbkhhgekaaDoorStrRow
import Derived.Test.YtlmclpbkhhgekaaDoorRMatch
import Derived.Deep.RegionHeld3
set_option linter.unusedVariables false
set_option linter.unusedSimpArgs false
namespace Go.Proofs.YtlmclpbkhhgekaaDoor
open Go Go.RowKit Sy

/-- The new stream, its one line in block g. -/
def chT (g : Nat) (nm par : Str) : NewT := ⟨some ⟨g, 0, none⟩, 1, ⟨nm, par, [allLine]⟩⟩
def chL (b : Nat) : NewL := ⟨⟨some ⟨b, 0, none⟩, 1, none, 0⟩, allLine⟩
theorem row29 {W : World} {g : Nat} (b : Nat) (h : W.heap.size = g) : RowX encL 5 35 (W.alloc (.cells #[.int .i64 1, .slice (some ⟨b, 0, none⟩) 1 1, .bool true, .slice none 0 0, .bool false] 35)) g 0 [chL b] := by
  subst h
  refine ⟨⟨_, heap_alloc_new W _⟩, fun k x hk i u hu => ?_⟩
  have h0 : k = 0 := by
    have := (List.getElem?_eq_some_iff.1 hk).1
    simp at this
    exact this
  subst h0
  obtain rfl : chL b = x := by simpa using hk
  rw [cell_of_row _ W.heap.size _ _ _ _ (heap_alloc_new W _)]
  simpa [encL, chL, allLine] using hu
theorem read31 {W : World} {g' : Nat} (g : Nat) (nm par : Str) (h : W.heap.size = g') : ReadX encT 3 (W.alloc (.cells #[.string (bs nm), .string (bs par), .slice (some ⟨g, 0, none⟩) 1 1] 38)) (some ⟨g', 0, none⟩) [chT g nm par] := read_newT (chT g nm par) h
theorem pre29 {w1 w0 w7 : World} {b : Nat} {v : Value} {l : List NewT} (hb : Calm (w1.alloc (.cells #[.int .i64 1, .slice (some ⟨b, 0, none⟩) 1 1, .bool true, .slice none 0 0, .bool false] 35)) w0) (h : OwnX encT 3 38 w0 w7 v l) :
    RowX encL 5 35 w7 w1.heap.size 0 [chL b] ∧ some w1.heap.size ≠ v.ownBlock :=
  ⟨((row29 b rfl).calm hb).calm h.calm, h.far (Nat.lt_of_lt_of_le (row29 (W := w1) b rfl).lt hb.size)⟩
theorem pre31 {w1 w0 w7 : World} {b : Nat} {nm par : Str} {v : Value} {l : List NewT} (hb : Calm ((w1.alloc (.cells #[.int .i64 1, .slice (some ⟨b, 0, none⟩) 1 1, .bool true, .slice none 0 0, .bool false] 35)).alloc (.cells #[.string (bs nm), .string (bs par), .slice (some ⟨w1.heap.size, 0, none⟩) 1 1] 38)) w0) (h : OwnX encT 3 38 w0 w7 v l) :
    (RowX encL 5 35 w7 w1.heap.size 0 [chL b] ∧ some w1.heap.size ≠ v.ownBlock) ∧ ReadX encT 3 w7 (some ⟨w1.heap.size + 1, 0, none⟩) [chT w1.heap.size nm par] :=
  ⟨pre29 (((Calm.refl _).alloc _).trans hb) h, ((read31 w1.heap.size nm par (by simp)).calm hb).calm h.calm⟩
theorem row29n {w7 w8 : World} {b : Nat} {nm par : Str} {v : Value} {l : List NewT} {w1 : World} (h : OwnX encT 3 38 w1 w7 v l) (hg : ((w7.alloc (.cells #[.int .i64 1, .slice (some ⟨b, 0, none⟩) 1 1, .bool true, .slice none 0 0, .bool false] 35)).alloc (.cells #[.string (bs nm), .string (bs par), .slice (some ⟨w7.heap.size, 0, none⟩) 1 1] 38)).grownBy w8 v.ownBlock) :
    RowX encL 5 35 w8 w7.heap.size 0 [chL b] :=
  ((row29 (W := w7) b rfl).calm ((Calm.refl _).alloc _)).grown hg (fun e => Nat.lt_irrefl _ (h.blk_lt e))
theorem row29o {w7 w8 : World} {g b : Nat} {o : Obj} {v : Value} (h : RowX encL 5 35 w7 g 0 [chL b] ∧ some g ≠ v.ownBlock) (hg : (w7.alloc o).grownBy w8 v.ownBlock) : RowX encL 5 35 w8 g 0 [chL b] := (h.1.calm ((Calm.refl _).alloc _)).grown hg h.2
theorem all_rule {w : World} {b : Nat} (h : w.cell? ⟨b, 0, none⟩ = some (.string ⟨#[118, 105, 101, 119]⟩)) (hb : b < w.heap.size) : RuleU w (chL b).a allLine.rule :=
  ⟨⟨by decide, by decide, fun _ => ⟨b, 0, rfl, hb, fun k l hl => by
    match k, hl with
    | 0, hl =>
      cases hl
      exact h⟩⟩, ⟨by decide, by decide, fun h => absurd h (by decide)⟩, Nat.le_refl 1, Nat.le_refl 0, (by show 1 ≤ 9223372036854775807; omega), (by show 0 ≤ 9223372036854775807; omega)⟩
theorem child_strms {w1 w8 : World} {A8 : Option Addr} {n c8 g b : Nat} {lT : List NewT} {ss : List Strm} {nm par : Str} (hs : lT.map (·.s) = ss) (hT : ∀ z ∈ lT, StrmU w1 z.A z.c z.s) (hown : OwnX encT 3 38 w1 w8 (.slice A8 (n + 1) c8) (lT ++ [chT g nm par])) (hrow : RowX encL 5 35 w8 g 0 [chL b]) (hru : RuleU w1 (chL b).a allLine.rule) (hnm : nm.length ≤ 1048576) (hpar : par.length ≤ 1048576) (hl : (lT ++ [chT g nm par]).length = n + 1) (hn : n ≤ 1048576) :
    StrmsU w8 A8 (ss ++ [⟨nm, par, [allLine]⟩]) := by
  obtain ⟨A9, c9, e9, hU⟩ := hown.strms (fun y hy => by
    rcases List.mem_append.1 hy with h | h
    · exact (hT y h).calm hown.calm
    · rw [List.mem_singleton] at h
      subst h
      refine ⟨hnm, hpar, ⟨by show 1 ≤ _; decide, fun _ => ⟨g, 0, rfl, hrow.lt, fun k s hs => ?_⟩⟩, Nat.le_refl 1, by show 1 ≤ 9223372036854775807; omega⟩
      have h0 : k = 0 := by
        have := (List.getElem?_eq_some_iff.1 hs).1
        simp [chT] at this
        exact this
      subst h0
      obtain rfl : allLine = s := by simpa [chT] using hs
      exact ⟨(chL b).a, ⟨hrow.cell 0 (chL b) rfl 0 _ rfl, hrow.cell 0 (chL b) rfl 1 _ rfl, hrow.cell 0 (chL b) rfl 2 _ rfl, hrow.cell 0 (chL b) rfl 3 _ rfl, hrow.cell 0 (chL b) rfl 4 _ rfl⟩, hru.calm hown.calm⟩) (by rw [hl]; omega)
  rw [hl] at e9
  obtain ⟨rfl, _, rfl⟩ : A8 = A9 ∧ n + 1 = n + 1 ∧ c8 = c9 := by simpa using e9
  rw [List.map_append, hs] at hU
  exact hU

/-! ### what the law says of the new stream -/
def moreS (ss : List Strm) (nm par : Str) : List Strm := ss ++ [⟨nm, par, [allLine]⟩]
theorem more_last (ss : List Strm) (nm par : Str) : strm (moreS ss nm par) ss.length = ⟨nm, par, [allLine]⟩ := strm_at (by simp [moreS])
theorem more_len (ss : List Strm) (nm par : Str) : (moreS ss nm par).length = ss.length + 1 := by simp [moreS]
theorem more_parent {ss : List Strm} {nm par : Str} (hg : Sy.Good (moreS ss nm par)) (hp : par ≠ []) : ∃ p, parentI (moreS ss nm par) ss.length = some p ∧ (strm (moreS ss nm par) p).name = par ∧ p < (moreS ss nm par).length := by
  rcases h : parentI (moreS ss nm par) ss.length with _ | p
  · have := hg.parent (i := ss.length) (by rw [more_len]; omega) h
    rw [more_last] at this
    exact absurd this hp
  · refine ⟨p, rfl, ?_, parentI_lt h⟩
    unfold parentI at h
    rw [more_last] at h
    simp only at h
    rw [if_neg hp] at h
    obtain ⟨t, ht, hn, _⟩ := findI_some h
    rw [strm_at ht, hn]
/-- The two answers of the law. -/
structure ChildE (nm par s : Str) (x y : Int × Str) : Prop where
  same : x.1 = y.1
  own : x.1 = 1 ∨ x.1 = 2 → x.2 = 47 :: 47 :: nm ++ s.drop 6 ∧ Lib.trimPrefix s [47, 47, 118, 105, 101, 119] = s.drop 6 ∧ Lib.hasPrefix y.2 (47 :: 47 :: par ++ [47]) = true
  other : ¬ (x.1 = 1 ∨ x.1 = 2) → x.2 = y.2
theorem hasPrefix_app (a b : Str) : Lib.hasPrefix (a ++ b) a = true := by
  unfold Lib.hasPrefix
  rw [List.isPrefixOf_iff_prefix]
  exact List.prefix_append a b
theorem child_law {ss : List Strm} {nm par : Str} (hg : Sy.Good (moreS ss nm par)) {p : Nat} (hpp : parentI (moreS ss nm par) ss.length = some p) (hpn : (strm (moreS ss nm par) p).name = par) (s : Str) : ChildE nm par s (locI (moreS ss nm par) ss.length s) (locI (moreS ss nm par) p s) := by
  unfold locI
  by_cases hu : underV s = true
  · rw [if_pos hu, if_pos hu]
    have h := child hg (i := ss.length) (by rw [more_len]; omega) hpp (by rw [more_last]) hu
    rw [more_last, hpn] at h
    refine ⟨h.1, fun hk => ?_, fun hk => ?_⟩
    · have h2 := h.2
      rw [if_pos hk] at h2
      obtain ⟨r, hr0, _, _, _, ht, hd⟩ := under_form hu
      refine ⟨h2.1, ?_, ?_⟩
      · unfold Lib.trimPrefix
        have : Lib.hasPrefix s [47, 47, 118, 105, 101, 119] = true := by
          conv => lhs; rw [← List.take_append_drop 6 s, ht]
          exact hasPrefix_app _ _
        rw [if_pos this]
        rfl
      · rw [h2.2, hd]
        have : (47 :: 47 :: par ++ 47 :: Lib.join r [47] : Str) = (47 :: 47 :: par ++ [47]) ++ Lib.join r [47] := by simp
        rw [this]
        exact hasPrefix_app _ _
    · have h2 := h.2
      rw [if_neg hk] at h2
      exact h2
  · rw [if_neg hu, if_neg hu]
    exact ⟨rfl, fun hk => absurd hk (by decide), fun _ => rfl⟩
theorem bs_toArray (l : Str) : (⟨l.toArray⟩ : ByteArray) = bs l := rfl

set_option maxRecDepth 100000 in
set_option maxHeartbeats 16000000 in
theorem strChild_c (ss : List Strm) (par nm s : Str) (A : Option Addr) (n c : Nat) (w : World) (hv : StrmsU w A ss) (hn : ss.length = n) (hnc : n ≤ c) (hc : c ≤ 1048576) (hpl : par.length ≤ 1048576) (hnl : nm.length ≤ 1048576) (hs : s.length ≤ 1048576) (hM : MaxL w) :
    Calls Tryd.prog 6 #[.slice A n c, .string (bs par), .string (bs nm), .string (bs s)] w fun e w' => e = .returned (.bool true) ∧ Calm w w' := by
  have hsz := bs_size s
  have hszp := bs_size par
  have hszn := bs_size nm
  obtain ⟨w1, hw1⟩ : ∃ w1, w1 = (w.alloc (.cells #[.string ⟨#[118, 105, 101, 119]⟩] 9)).alloc (.cells #[.int .i64 1, .slice (some ⟨w.heap.size, 0, none⟩) 1 1, .bool true, .slice none 0 0, .bool false] 35) := ⟨_, rfl⟩
  have hc1 : Calm w w1 := by rw [hw1]; exact ((Calm.refl w).alloc _).alloc _
  have hbox : BoxL w1 (w.heap.size + 1) (chL w.heap.size).a 1 1 0 true false := by
    have := BoxL.new (w.alloc (.cells #[.string ⟨#[118, 105, 101, 119]⟩] 9)) (chL w.heap.size).a 1 1 0 true false
    rw [hw1]
    simpa [chL] using this
  have hru : RuleU w1 (chL w.heap.size).a allLine.rule := by
    refine all_rule ?_ ?_
    · rw [hw1]
      exact Calm.at_ ((Calm.refl _).alloc _) (by simp [go_sem]) (by simp)
    · rw [hw1]
      simp
      omega
  have KA : Hid (∀ W, Calm w W → Calls Tryd.prog 10 #[] W fun e w' => e = .returned (.bool true) ∧ Calm W w') := fun W hW => awakeS_c W (hM.calm hW)
  obtain ⟨lT, hTs, hTu, hTr⟩ := (hv.calm hc1).places
  have hTl : lT.length = n := by rw [← hn, ← hTs, List.length_map]
  have HT := Lib.hid (And.intro hTs (And.intro hTu (And.intro hTr hTl)))
  have HF : Hid (∀ W, Calm w1 W → W.cell? ⟨w.heap.size + 1, 0, none⟩ = some (.int .i64 1) ∧ W.cell? ⟨w.heap.size + 1, 1, none⟩ = some (.slice (some ⟨w.heap.size, 0, none⟩) 1 1) ∧ W.cell? ⟨w.heap.size + 1, 2, none⟩ = some (.bool true) ∧ W.cell? ⟨w.heap.size + 1, 3, none⟩ = some (.slice none 0 0) ∧ W.cell? ⟨w.heap.size + 1, 4, none⟩ = some (.bool false)) := fun W hW => by
    have h := hbox.calm hW
    exact ⟨h.c0, h.c1, h.c2, h.c3, h.c4⟩
  have HW := Lib.hid hw1
  have HC1 := Lib.hid hc1
  have HRu := Lib.hid hru
  have HN := Lib.hid hn
  have HM := Lib.hid hM
  clear hw1 hc1 hbox hru hTs hTu hTr hTl hv hn hM
  go_enter Tryd.func6, Tryd.ntmps6
  go_wp2_with fail
  rw [← HW.out]
  go_region_held3 (fun W => W.cell? ⟨w.heap.size + 1, 0, none⟩ = some (.int .i64 1) ∧ W.cell? ⟨w.heap.size + 1, 1, none⟩ = some (.slice (some ⟨w.heap.size, 0, none⟩) 1 1) ∧ W.cell? ⟨w.heap.size + 1, 2, none⟩ = some (.bool true) ∧ W.cell? ⟨w.heap.size + 1, 3, none⟩ = some (.slice none 0 0) ∧ W.cell? ⟨w.heap.size + 1, 4, none⟩ = some (.bool false))
    (first
      | exact HF.out _ (Below.drew (Calm.refl _))
      | exact HF.out _ (Below.drew ((Calm.refl _).alloc _))
      | exact HF.out _ (Below.drew (((Calm.refl _).alloc _).alloc _))
      | exact HF.out _ ((Calm.refl _).alloc _)
      | exact HF.out _ (((Calm.refl _).alloc _).alloc _)
      | exact HF.out _ hcy
      | exact HF.out _ hcx
      | exact HF.out _ (hcx.alloc _)
      | exact HF.out _ ((hcx.alloc _).alloc _)
      | go_keep)
    (first
      | (refine step_append_xs (enc := encT) (K := 3) (T := 38) Tryd.underlying22 info_strm rfl (by decide) (by decide) encT_len encT_one rfl _ (.tmp 24) rfl _ (.slice none 0 0) [] lT (by simp [Act.eval, Act.put]) (OwnX.nil (Calm.refl _)) A n c (by simp [Act.eval, Act.put]) HT.out.2.2.2 (HT.out.2.2.1.calm (by first | exact Below.drew (Calm.refl _) | exact Below.drew ((Calm.refl _).alloc _) | exact Below.drew (((Calm.refl _).alloc _).alloc _))) (by simp; omega) ?_; intro v7 w7 hown70 hgr7; rw [List.nil_append] at hown70; obtain ⟨A7, c7, hv7⟩ := hown70.len_shape; rw [HT.out.2.2.2] at hv7; subst hv7; (first | have hX31 := pre31 (w1 := w1) (b := w.heap.size) (nm := nm) (par := par) (Below.drew (Calm.refl _)) hown70 | have hX29 := pre29 (w1 := w1) (b := w.heap.size) (Below.drew (Calm.refl _)) hown70 | skip); have hown7 : OwnX encT 3 38 w1 w7 (.slice A7 n c7) lT := hown70.base (by first | exact Below.drew (Calm.refl _) | exact Below.drew ((Calm.refl _).alloc _) | exact Below.drew (((Calm.refl _).alloc _).alloc _)); have hcx : Calm w1 w7 := hown7.calm)
      | (refine step_append_xs (enc := encT) (K := 3) (T := 38) Tryd.underlying22 info_strm rfl (by decide) (by decide) encT_len encT_one rfl (.tmp 25) (.tmp 31) rfl w1 (.slice A7 n c7) lT [chT w1.heap.size nm par] (by simp [Act.eval, Act.put]) hown7 _ 1 1 rfl rfl hX31.2 (by rw [HT.out.2.2.2]; omega) ?_; intro v8 w8 hown8 hgr8; have hrow := hX31.1.1.grown hgr8 hX31.1.2; obtain ⟨A8, c8, hv8⟩ := hown8.len_shape; rw [List.length_append, HT.out.2.2.2, List.length_singleton] at hv8; subst hv8; have hcy : Calm w1 w8 := hown8.calm)
      | (refine step_append_xs (enc := encT) (K := 3) (T := 38) Tryd.underlying22 info_strm rfl (by decide) (by decide) encT_len encT_one rfl (.tmp 25) (.tmp 31) rfl w1 (.slice A7 n c7) lT [chT w1.heap.size nm par] (by simp [Act.eval, Act.put]) (hown7.to ((Calm.refl _).alloc _)) _ 1 1 rfl rfl (read31 w1.heap.size nm par rfl) (by rw [HT.out.2.2.2]; omega) ?_; intro v8 w8 hown8 hgr8; have hrow := row29o hX29 hgr8; obtain ⟨A8, c8, hv8⟩ := hown8.len_shape; rw [List.length_append, HT.out.2.2.2, List.length_singleton] at hv8; subst hv8; have hcy : Calm w1 w8 := hown8.calm)
      | (refine step_append_xs (enc := encT) (K := 3) (T := 38) Tryd.underlying22 info_strm rfl (by decide) (by decide) encT_len encT_one rfl (.tmp 25) (.tmp 31) rfl w1 (.slice A7 n c7) lT [chT w7.heap.size nm par] (by simp [Act.eval, Act.put]) (hown7.to (((Calm.refl _).alloc _).alloc _)) _ 1 1 rfl rfl (read31 w7.heap.size nm par (by simp)) (by rw [HT.out.2.2.2]; omega) ?_; intro v8 w8 hown8 hgr8; have hrow := row29n (b := w.heap.size) (nm := nm) (par := par) hown7 hgr8; obtain ⟨A8, c8, hv8⟩ := hown8.len_shape; rw [List.length_append, HT.out.2.2.2, List.length_singleton] at hv8; subst hv8; have hcy : Calm w1 w8 := hown8.calm))
  all_goals
    have hsm9 : StrmsU w8 A8 (moreS ss nm par) := child_strms HT.out.1 HT.out.2.1 hown8 hrow HRu.out hnl hpl (by rw [List.length_append, HT.out.2.2.2]; rfl) (by omega)
    have HCW : Hid (Calm w w8) := HC1.out.trans hcy
    have HMo := Lib.hid hsm9
    clear hsm9 hrow hgr8 hown8 hcy hown7 hcx hown70 hgr7 HF HW HT HRu
    obtain ⟨N, hN⟩ : ∃ N, n + 1 = N := ⟨_, rfl⟩
    rw [hN]
    have HNl : Hid ((moreS ss nm par).length = N) := by show _ = _; rw [more_len, HN.out, hN]
    have hNle : N ≤ 1048577 := by omega
    clear hN
    have KC : Hid (∀ W, Calm w8 W → Calls Tryd.prog 12 #[.slice A8 N c8] W fun e w' => e = .returned (.tuple #[.int .i64 ((strErr (moreS ss nm par)).1 : Nat), .int .i64 (strErr (moreS ss nm par)).2]) ∧ Calm W w') := fun W hW => strcheck_c (moreS ss nm par) A8 N c8 W (HMo.out.calm hW) HNl.out
    obtain ⟨e1, he1⟩ : ∃ e1, (strErr (moreS ss nm par)).1 = e1 := ⟨_, rfl⟩
    obtain ⟨e2, he2⟩ : ∃ e2, (strErr (moreS ss nm par)).2 = e2 := ⟨_, rfl⟩
    rw [he1, he2] at KC
    have HE2 := Lib.hid he2
    clear he1 he2
    by_cases h2 : e2 = 0
    · subst h2
      have HGd : Hid (Sy.Good (moreS ss nm par)) := good_iff.1 HE2.out
      obtain ⟨y2, hy2⟩ : ∃ y2, smallS (moreS ss nm par) = y2 := ⟨_, rfl⟩
      have KS : Hid (∀ W, Calm w8 W → Calls Tryd.prog 9 #[.slice A8 N c8] W fun e w' => e = .returned (.bool y2) ∧ Calm W w') := fun W hW => smallS_c (moreS ss nm par) y2 _ N c8 W (HMo.out.calm hW) HNl.out hy2
      have HY2 := Lib.hid hy2
      clear hy2
      cases y2 with
      | false =>
        go_wp2_with (first
          | (go_at_call 12; refine (KC.out w8 (Calm.refl _)).mono ?_; rintro e w2 ⟨rfl, hc2⟩)
          | (go_at_call 9; refine (KS.out w2 hc2).mono ?_; rintro e w3 ⟨rfl, hc3⟩)
          | (go_at_call 10; refine (KA.out w3 (HCW.out.trans (hc2.trans hc3))).mono ?_; rintro e w5 ⟨rfl, hc5⟩))
        go_ret
        exact ⟨rfl, HCW.out.trans (hc2.trans (hc3.trans hc5))⟩
      | true =>
        have HSM : Hid (SmallSS (moreS ss nm par)) := (smallS_small HY2.out).1
        by_cases h200 : 200 < s.length
        · go_wp2_with (first
            | (go_at_call 12; refine (KC.out w8 (Calm.refl _)).mono ?_; rintro e w2 ⟨rfl, hc2⟩)
            | (go_at_call 9; refine (KS.out w2 hc2).mono ?_; rintro e w3 ⟨rfl, hc3⟩)
            | (go_at_call 10; refine (KA.out w3 (HCW.out.trans (hc2.trans hc3))).mono ?_; rintro e w5 ⟨rfl, hc5⟩))
          go_ret
          exact ⟨rfl, HCW.out.trans (hc2.trans (hc3.trans hc5))⟩
        · have hd200 : decide ((200 : Int) < (s.length : Int)) = false := by simp; omega
          cases par with
          | nil =>
            have e0 : bs [] = ⟨#[]⟩ := rfl
            rw [e0]
            go_wp2_with (first
              | (go_at_call 12; refine (KC.out w8 (Calm.refl _)).mono ?_; rintro e w2 ⟨rfl, hc2⟩)
              | (go_at_call 9; refine (KS.out w2 hc2).mono ?_; rintro e w3 ⟨rfl, hc3⟩)
              | (go_at_call 10; refine (KA.out w3 (HCW.out.trans (hc2.trans hc3))).mono ?_; rintro e w5 ⟨rfl, hc5⟩))
            go_ret
            exact ⟨rfl, HCW.out.trans (hc2.trans (hc3.trans hc5))⟩
          | cons p0 pt =>
            have hpe : (p0 :: pt).isEmpty = false := rfl
            obtain ⟨par, hpa⟩ : ∃ pa, p0 :: pt = pa := ⟨_, rfl⟩
            have hpne : par ≠ [] := by rw [← hpa]; simp
            rw [hpa] at hpe hpl hszp HMo HNl HE2 HGd HY2 HSM ⊢
            clear hpa
            obtain ⟨p, hpp, hpn, hpl2⟩ := more_parent HGd.out hpne
            have hE := child_law HGd.out hpp hpn s
            have hil : ss.length < (moreS ss nm par).length := by rw [more_len]; omega
            have K1 : Hid (∀ W, Calm w8 W → Calls Tryd.prog 11 #[.slice A8 N c8, .string (bs nm), .string (bs s)] W fun e w' => e = .returned (.tuple #[.int .i64 (locI (moreS ss nm par) ss.length s).1, .string (bs (locI (moreS ss nm par) ss.length s).2), .int .i64 0]) ∧ Calm W w') := fun W hW => by
              have := locate_c (moreS ss nm par) nm s _ N c8 W (HMo.out.calm hW) HNl.out hnl (by omega) HSM.out (HM.out.calm (HCW.out.trans hW))
              have h3 := locE_good HGd.out hil s
              rw [more_last] at h3
              rw [h3] at this
              exact this
            have K2 : Hid (∀ W, Calm w8 W → Calls Tryd.prog 11 #[.slice A8 N c8, .string (bs par), .string (bs s)] W fun e w' => e = .returned (.tuple #[.int .i64 (locI (moreS ss nm par) p s).1, .string (bs (locI (moreS ss nm par) p s).2), .int .i64 0]) ∧ Calm W w') := fun W hW => by
              have := locate_c (moreS ss nm par) par s _ N c8 W (HMo.out.calm hW) HNl.out hpl (by omega) HSM.out (HM.out.calm (HCW.out.trans hW))
              have h3 := locE_good HGd.out hpl2 s
              rw [hpn] at h3
              rw [h3] at this
              exact this
            obtain ⟨x, hx⟩ : ∃ x, locI (moreS ss nm par) ss.length s = x := ⟨_, rfl⟩
            obtain ⟨y, hy⟩ : ∃ y, locI (moreS ss nm par) p s = y := ⟨_, rfl⟩
            rw [hx] at K1 hE
            rw [hy] at K2 hE
            clear hx hy hpp hpn hpl2 hil hpne
            obtain ⟨k, s1⟩ := x
            obtain ⟨k', t⟩ := y
            obtain ⟨h1, h2, h3⟩ := hE
            simp only at h1 h2 h3 K1 K2
            subst h1
            by_cases hk : k = 1 ∨ k = 2
            · obtain ⟨g1, g2, g3⟩ := h2 hk
              clear h2 h3
              obtain ⟨d, hd⟩ : ∃ d, s.drop 6 = d := ⟨_, rfl⟩
              rw [hd] at g1 g2
              have hdl : d.length ≤ 1048576 := by rw [← hd, List.length_drop]; omega
              have hcat : (⟨#[47, 47]⟩ : ByteArray) ++ bs nm ++ bs d = bs s1 := by
                rw [g1, bs_append, show bs (47 :: 47 :: nm) = ⟨#[47, 47]⟩ ++ bs nm from bs_append [47, 47] nm]
              have hcat2 : (⟨#[47, 47]⟩ : ByteArray) ++ bs par ++ ⟨#[47]⟩ = bs (47 :: 47 :: par ++ [47]) := by
                rw [bs_append, show bs (47 :: 47 :: par) = ⟨#[47, 47]⟩ ++ bs par from bs_append [47, 47] par]
                rfl
              obtain ⟨pp, hpp⟩ : ∃ pp, (47 :: 47 :: par ++ [47] : Str) = pp := ⟨_, rfl⟩
              rw [hpp] at hcat2 g3
              have KT : Hid (∀ W, Calls Tryd.prog 15 #[.string (bs s), .string ⟨#[47, 47, 118, 105, 101, 119]⟩] W fun e w' => e = .returned (.string (bs d)) ∧ w' = W) := fun W => by
                have := Tryd.strings_TrimPrefix (bs s) ⟨#[47, 47, 118, 105, 101, 119]⟩ W
                rw [bs_toList, show ((⟨#[47, 47, 118, 105, 101, 119]⟩ : ByteArray).data.toList) = [47, 47, 118, 105, 101, 119] from rfl, g2] at this
                exact this
              have KH : Hid (∀ W, Calls Tryd.prog 16 #[.string (bs t), .string (bs pp)] W fun e w' => e = .returned (.bool true) ∧ w' = W) := fun W => by
                have := Tryd.strings_HasPrefix (bs t) (bs pp) W
                rw [bs_toList, bs_toList, g3] at this
                exact this
              have KH2 : Hid (∀ W, Calls Tryd.prog 16 #[.string (bs t), .string ((⟨#[47, 47]⟩ : ByteArray) ++ bs par ++ ⟨#[47]⟩)] W fun e w' => e = .returned (.bool true) ∧ w' = W) := fun W => by rw [hcat2]; exact KH.out W
              have hdsz := bs_size d
              have hs1s := bs_size s1
              clear g1 g2 g3 hd hpp
              rcases hk with rfl | rfl
              all_goals
                go_wp2_with (first
                  | (go_at_call 12; refine (KC.out w8 (Calm.refl _)).mono ?_; rintro e w2 ⟨rfl, hc2⟩)
                  | (go_at_call 9; refine (KS.out w2 hc2).mono ?_; rintro e w3 ⟨rfl, hc3⟩))
                refine (K1.out w3 (hc2.trans hc3)).mono ?_
                rintro e w5 ⟨rfl, hc5⟩
                go_wp2_with fail
                refine (K2.out w5 (hc2.trans (hc3.trans hc5))).mono ?_
                rintro e w6 ⟨rfl, hc6⟩
                go_wp2_with (first
                  | (go_at_call 15; refine (KT.out _).mono ?_; rintro e w7 ⟨rfl, rfl⟩)
                  | (go_at_call 16; first | (refine (KH.out _).mono ?_; rintro e w7 ⟨rfl, rfl⟩) | (refine (KH2.out _).mono ?_; rintro e w7 ⟨rfl, rfl⟩))
                  | (go_at_call 10; refine (KA.out _ (HCW.out.trans (hc2.trans (hc3.trans (hc5.trans hc6))))).mono ?_; rintro e w9 ⟨rfl, hc9⟩))
                go_ret
                exact ⟨rfl, HCW.out.trans (hc2.trans (hc3.trans (hc5.trans (hc6.trans hc9))))⟩
            · have h4 := h3 hk
              subst h4
              have hb1 : (k == 1) = false := by rw [beq_eq_false_iff_ne]; exact fun e => hk (.inl e)
              have hb2 : (k == 2) = false := by rw [beq_eq_false_iff_ne]; exact fun e => hk (.inr e)
              clear h2 h3 hk
              go_wp2_with (first
                | (go_at_call 12; refine (KC.out w8 (Calm.refl _)).mono ?_; rintro e w2 ⟨rfl, hc2⟩)
                | (go_at_call 9; refine (KS.out w2 hc2).mono ?_; rintro e w3 ⟨rfl, hc3⟩))
              refine (K1.out w3 (hc2.trans hc3)).mono ?_
              rintro e w5 ⟨rfl, hc5⟩
              go_wp2_with fail
              refine (K2.out w5 (hc2.trans (hc3.trans hc5))).mono ?_
              rintro e w6 ⟨rfl, hc6⟩
              go_wp2_with (go_at_call 10; refine (KA.out w6 (HCW.out.trans (hc2.trans (hc3.trans (hc5.trans hc6))))).mono ?_; rintro e w9 ⟨rfl, hc9⟩)
              go_ret
              exact ⟨rfl, HCW.out.trans (hc2.trans (hc3.trans (hc5.trans (hc6.trans hc9))))⟩
    · have hb2 : (e2 != 0) = true := by simpa using h2
      clear h2
      go_wp2_with (first
        | (go_at_call 12; refine (KC.out w8 (Calm.refl _)).mono ?_; rintro e w2 ⟨rfl, hc2⟩)
        | (go_at_call 10; refine (KA.out w2 (HCW.out.trans hc2)).mono ?_; rintro e w5 ⟨rfl, hc5⟩))
      go_ret
      exact ⟨rfl, HCW.out.trans (hc2.trans hc5)⟩
end Go.Proofs.YtlmclpbkhhgekaaDoor
