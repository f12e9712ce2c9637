/- Walks: the forest of a list of streams: newForest, parent. -/
import Derived.Test.YtlmclpbkhhgekaaDoorProg
import Derived.Test.YtlmclpbkhhgekaaDoorStrMem
import Derived.Test.YtlmclpbkhhgekaaDoorCalm
import Derived.Test.YtlmclpbkhhgekaaDoorOwn
import Derived.Maps.OwnSet
import Derived.Deep.RegionLaw
set_option linter.unusedVariables false
set_option linter.unusedSimpArgs false
namespace Go.Proofs.YtlmclpbkhhgekaaDoor
open Go Go.RowKit Sy

theorem key_law : Maps.Keyed Tryd.prog 9 := Maps.string_keyed Tryd.underlying9
theorem zero_int (w : World) : (zeroValue 3).run Tryd.prog w = .ok (.int .i64 0) w := by kernel_rfl
theorem key_of (s : Str) (h : s.length ≤ 1048576) : keyOf Tryd.prog 9 (.string (bs s)) = some (.string s) := by
  have := WideMaps.keyOf_string_mk Tryd.underlying9 (s := bs s) (by rw [bs_size]; unfold maxLen; omega)
  rw [bs_toList] at this
  exact this

/-- The datum of the index of the first streams of a list. -/
def DatIs (D : DataW Unit) (l : List Strm) : Prop := Maps.IsMap D ∧ ∀ s : Str, D.atKey (.string s) (.lit (.int .i64 0)) = .lit (.int .i64 ((findI l s).getD 0 : Nat)) ∧ Maps.has D (.string s) = (findI l s).isSome
theorem DatIs.nil : DatIs (.map []) [] := ⟨Maps.isMap_empty, fun s => ⟨rfl, rfl⟩⟩
theorem DatIs.step {D : DataW Unit} {l : List Strm} {s : Strm} (h : DatIs D l) (hn : findI l s.name = none) : DatIs (D.put (.string s.name) (.lit (.int .i64 (l.length : Nat)))) (l ++ [s]) := by
  refine ⟨h.1.put _ _, fun t => ?_⟩
  rw [findI_snoc]
  by_cases e : s.name = t
  · subst e
    rw [Maps.atKey_put_same h.1 (by trivial), Maps.has_put_same h.1 (by trivial), hn]
    simp
  · have hne : (Lit.string t) ≠ .string s.name := fun e2 => e (by simpa using e2.symm)
    rw [Maps.atKey_put_other hne, Maps.has_put_other hne, (h.2 t).1, (h.2 t).2]
    rcases findI l t with _ | i <;> simp [e]
theorem DatIs.skip {D : DataW Unit} {l : List Strm} {s : Strm} {i : Nat} (h : DatIs D l) (hn : findI l s.name = some i) : DatIs D (l ++ [s]) := by
  refine ⟨h.1, fun t => ?_⟩
  rw [findI_snoc, (h.2 t).1, (h.2 t).2]
  rcases hf : findI l t with _ | j
  · have e : s.name ≠ t := fun e => by subst e; rw [hf] at hn; cases hn
    simp [e]
  · simp

/-- A map in memory is the index of a list's names, there and in all worlds behind. -/
def Idx (w : World) (B : Nat) (l : List Strm) : Prop := B < w.heap.size ∧ ∀ (w' : World) (s : Str), Calm w w' → s.length ≤ 1048576 →
  (Instr.lookup 75 (.map (some B)) (.string (bs s)) true).run Tryd.prog w' = .ok (.tuple #[.int .i64 ((findI l s).getD 0 : Nat), .bool (findI l s).isSome]) w' ∧
  (Instr.lookup 75 (.map (some B)) (.string (bs s)) false).run Tryd.prog w' = .ok (.int .i64 ((findI l s).getD 0 : Nat)) w'
theorem Idx.calm {w w' : World} {B : Nat} {l : List Strm} (h : Idx w B l) (hc : Calm w w') : Idx w' B l := ⟨Nat.lt_of_lt_of_le h.1 hc.size, fun w2 s h2 hs => h.2 w2 s (hc.trans h2) hs⟩

abbrev MapAt (w : World) (B k : Nat) (D : DataW Unit) : Prop := w.ownsMap Tryd.prog 9 (plainElem Tryd.prog 3) B k D
theorem MapAt.calm {w w' : World} {B k : Nat} {D : DataW Unit} (h : MapAt w B k D) (hc : Calm w w') : MapAt w' B k D := by
  obtain ⟨es, clock, hb, r⟩ := h
  exact ⟨es, clock, (hc.block B (Array.getElem?_eq_some_iff.1 hb).1).trans hb, r⟩
theorem idx_of {w : World} {B k : Nat} {D : DataW Unit} {l : List Strm} (h : MapAt w B k D) (hD : DatIs D l) : Idx w B l := by
  refine ⟨h.lt, fun w' s hc hs => ?_⟩
  have h' := MapAt.calm h hc
  obtain ⟨c, hrun, hat, _⟩ := h'.lookup_int key_law Tryd.underlying75 Tryd.underlying3 (zero_int w') (key_of s hs)
  obtain ⟨v, ps, hrun2, hv⟩ := h'.look_ok key_law Tryd.underlying75 (zero_int w') (plainElem_int Tryd.underlying3 (by decide)) (key_of s hs)
  obtain ⟨c2, rfl, hc2, _⟩ := plainElem_int_inv Tryd.underlying3 hv
  simp only [Prod.mk.injEq] at hc2
  rw [(hD.2 s).1] at hat hc2
  simp only [DataW.lit.injEq, Lit.int.injEq, true_and] at hat hc2
  subst hat
  have e2 := hc2.1
  subst e2
  rw [hrun2, hrun, (hD.2 s).2]
  exact ⟨rfl, rfl⟩

/-- A forest in memory. -/
structure ForestAt (w : World) (F : Nat) (A : Option Addr) (n c : Nat) (ss : List Strm) : Prop where
  lt : F < w.heap.size
  c0 : w.cell? ⟨F, 0, none⟩ = some (.slice A n c)
  idx : ∃ B, w.cell? ⟨F, 1, none⟩ = some (.map (some B)) ∧ Idx w B ss
  hn : ss.length = n
  strms : StrmsU w A ss
theorem ForestAt.calm {w w' : World} {F : Nat} {A : Option Addr} {n c : Nat} {ss : List Strm} (h : ForestAt w F A n c ss) (hc : Calm w w') : ForestAt w' F A n c ss := by
  obtain ⟨B, h1, h2⟩ := h.idx
  exact ⟨Nat.lt_of_lt_of_le h.lt hc.size, Calm.at_ hc h.c0 h.lt, ⟨B, Calm.at_ hc h1 h.lt, h2.calm hc⟩, h.hn, h.strms.calm hc⟩

/-- A forest under way: its index holds the first k names. -/
structure Built (w wr : World) (A : Option Addr) (n c : Nat) (ss : List Strm) (k : Nat) : Prop where
  calm : Calm w wr
  lt : w.heap.size + 1 < wr.heap.size
  c0 : wr.cell? ⟨w.heap.size + 1, 0, none⟩ = some (.slice A n c)
  c1 : wr.cell? ⟨w.heap.size + 1, 1, none⟩ = some (.map (some w.heap.size))
  map : ∃ D, MapAt wr w.heap.size k D ∧ DatIs D (ss.take k)
theorem Built.done {w wr : World} {A : Option Addr} {n c : Nat} {ss : List Strm} {k : Nat} (h : Built w wr A n c ss k) (hk : ss.length ≤ k) (hn : ss.length = n) (hs : StrmsU w A ss) : ForestAt wr (w.heap.size + 1) A n c ss := by
  obtain ⟨D, h1, h2⟩ := h.map
  rw [List.take_of_length_le hk] at h2
  exact ⟨h.lt, h.c0, ⟨_, h.c1, idx_of h1 h2⟩, hn, hs.calm h.calm⟩
theorem Built.skip {w wr w2 : World} {A : Option Addr} {n c : Nat} {ss : List Strm} {k i : Nat} {s : Strm} (h : Built w wr A n c ss k) (hs : ss[k]? = some s) (hf : findI (ss.take k) s.name = some i) (hc : Calm wr w2) : Built w w2 A n c ss (k + 1) := by
  obtain ⟨D, h1, h2⟩ := h.map
  obtain ⟨hlt, he⟩ := List.getElem?_eq_some_iff.1 hs
  refine ⟨h.calm.trans hc, Nat.lt_of_lt_of_le h.lt hc.size, Calm.at_ hc h.c0 h.lt, Calm.at_ hc h.c1 h.lt, D, (MapAt.calm h1 hc).mono (by omega), ?_⟩
  rw [List.take_succ_eq_append_getElem hlt, he]
  exact h2.skip hf
theorem Built.put {w wr w2 w3 : World} {A : Option Addr} {n c : Nat} {ss : List Strm} {k : Nat} {s : Strm} (h : Built w wr A n c ss k) (hs : ss[k]? = some s) (hf : findI (ss.take k) s.name = none) (hc : Calm wr w2)
    (h3 : ∀ D, MapAt w2 w.heap.size k D → MapAt w3 w.heap.size (k + 1) (D.put (.string s.name) (.lit (.int .i64 (k : Nat))))) (hg : w2.grownBy w3 (some w.heap.size)) : Built w w3 A n c ss (k + 1) := by
  obtain ⟨D, h1, h2⟩ := h.map
  obtain ⟨hlt, he⟩ := List.getElem?_eq_some_iff.1 hs
  have hb : w3.heap[w.heap.size + 1]? = w2.heap[w.heap.size + 1]? := hg.block _ (Nat.lt_of_lt_of_le h.lt hc.size) (by simp)
  refine ⟨(h.calm.trans hc).grown hg (h.calm.trans hc).size (fun j e => by cases e; exact Nat.le_refl _), Nat.lt_of_lt_of_le h.lt (Nat.le_trans hc.size hg.size), ?_, ?_, _, h3 D (MapAt.calm h1 hc), ?_⟩
  · rw [World.cell?_of_block (a := ⟨w.heap.size + 1, 0, none⟩) hb]; exact Calm.at_ hc h.c0 h.lt
  · rw [World.cell?_of_block (a := ⟨w.heap.size + 1, 1, none⟩) hb]; exact Calm.at_ hc h.c1 h.lt
  · rw [List.take_succ_eq_append_getElem hlt, he]
    have := h2.step hf
    rw [List.length_take, Nat.min_eq_left (by omega)] at this
    exact this

theorem map_put {w : World} {B k : Nat} {D : DataW Unit} (hD : MapAt w B k D) {key : Str} (hkl : key.length ≤ 1048576) (hk : k < 2000000) (i : Nat) (hi : i ≤ 2000000) :
    ∃ w', (Instr.mapUpdate 75 (.map (some B)) (.string (bs key)) (.int .i64 i)).run Tryd.prog w = .ok () w' ∧ MapAt w' B (k + 1) (D.put (.string key) (.lit (.int .i64 (i : Nat)))) ∧ w.grownBy w' (some B) :=
  hD.update key_law Tryd.underlying75 (by unfold maxLen; omega) (key_of key hkl) (plainElem_int Tryd.underlying3 (a := (i : Int)) (WalkArith.wf_i64 (by omega)))
end Go.Proofs.YtlmclpbkhhgekaaDoor
set_option linter.unusedVariables false
set_option linter.unusedSimpArgs false
namespace Go.Proofs.YtlmclpbkhhgekaaDoor
open Go Go.RowKit Sy

set_option maxHeartbeats 2000000 in
theorem forest_c (ss : List Strm) (A : Option Addr) (n c : Nat) (w : World) (hs : StrmsU w A ss) (hn : ss.length = n) :
    Calls Tryd.prog 24 #[.slice A n c] w fun e w' => (∃ F, e = .returned (.pointer (some ⟨F, 0, none⟩)) ∧ ForestAt w' F A n c ss) ∧ Calm w w' := by
  have hlen := hs.len
  rw [hn] at hlen
  obtain ⟨w1, hw1⟩ : ∃ w1, w1 = (w.alloc (.map #[] 0)).alloc (.cells #[.slice A n c, .map (some w.heap.size)] 77) := ⟨_, rfl⟩
  have hb0 : Built w w1 A n c ss 0 := by
    subst hw1
    refine ⟨((Calm.refl w).alloc _).alloc _, by simp, by simp [go_sem], by simp [go_sem], .map [], ?_, ?_⟩
    · exact MapAt.calm (World.ownsMap_made w _ _ _) ((Calm.refl _).alloc _)
    · simpa using DatIs.nil
  have HN := Lib.hid hn
  have HS := Lib.hid hs
  have HB0 := Lib.hid hb0
  have HW := Lib.hid hw1
  have hmm := @run_makeMap Tryd.prog
  clear hn hs hb0 hw1
  go_enter Tryd.func24, Tryd.ntmps24
  go_wp2_with fail
  rw [← HW.out]
  go_loopw [14] (fun q wr => ∃ k : Nat, k ≤ n ∧ q = .int .i64 k ∧ Hid (Built w wr A n c ss k)) (fun q _ => n - (intOf q).toNat)
  case atStart => exact ⟨0, Nat.zero_le _, rfl, HB0.out⟩
  case round =>
    obtain ⟨k, hk, rfl, HB⟩ := hrel
    by_cases hlt : k < n
    · obtain ⟨b, o, s, PA, pc, rfl, hb, hr, hat, hsu⟩ := (HS.out.calm HB.out.calm).get (k := k) (by rw [HN.out]; exact hlt)
      have c0 := hat.c0
      have c1 := hat.c1
      have c2 := hat.c2
      obtain ⟨np, hnp⟩ : ∃ np, s.paths.length = np := ⟨_, rfl⟩
      rw [hnp] at c2
      obtain ⟨nm, hnm⟩ : ∃ nm, s.name = nm := ⟨_, rfl⟩
      obtain ⟨pa, hpa⟩ : ∃ pa, s.parent = pa := ⟨_, rfl⟩
      have hnl := hsu.name
      rw [hnm] at c0 hnl
      rw [hpa] at c1
      obtain ⟨wB, hwB⟩ : ∃ wB, wB = wr.alloc (.cells #[.string (bs nm), .string (bs pa), .slice PA np pc] 38) := ⟨_, rfl⟩
      have hcB : Calm wr wB := by rw [hwB]; exact (Calm.refl wr).alloc _
      have hzB : wr.heap.size < wB.heap.size := by rw [hwB]; simp
      have g0 : wB.cell? ⟨wr.heap.size, 0, none⟩ = some (.string (bs nm)) := by rw [hwB]; simp [go_sem]
      have f1 : wB.cell? ⟨w.heap.size + 1, 1, none⟩ = some (.map (some w.heap.size)) := Calm.at_ hcB HB.out.c1 HB.out.lt
      have hlw : w.heap.size + 1 < wB.heap.size := Nat.lt_of_lt_of_le HB.out.lt hcB.size
      obtain ⟨fi, hfi⟩ : ∃ fi, findI (ss.take k) nm = fi := ⟨_, rfl⟩
      have hI : Hid (∀ W, Calm wB W → (Instr.lookup 75 (.map (some w.heap.size)) (.string (bs nm)) true).run Tryd.prog W = .ok (.tuple #[.int .i64 (fi.getD 0 : Nat), .bool fi.isSome]) W) := fun W hW => by
        obtain ⟨D, h1, h2⟩ := HB.out.map
        rw [← hfi]
        exact ((idx_of h1 h2).2 W nm (hcB.trans hW) hnl).1
      have HR := Lib.hid hr
      have HNm := Lib.hid hnm
      have HF := Lib.hid hfi
      have HC := Lib.hid hcB
      have HWB := Lib.hid hwB
      clear hr hnm hfi hcB hat hsu hnp hpa
      go_wp2_with fail
      rw [← HWB.out]
      clear HWB hwB
      have e0 := fun p : CalmTo wB => p.cell g0 hzB
      have e1 := fun p : CalmTo wB => p.cell f1 hlw
      have e2 := fun p : CalmTo wB => hI.out p.w p.h
      cases fi with
      | some i =>
        simp only [Option.getD_some, Option.isSome_some] at e2
        refine wp_region_calm (by kernel_rfl) (by kernel_rfl) ?_
        repeat (go_big_quiet_step (fail))
        refine wpQuiet_nil ?_
        intro w7 hc7
        go_wp2
        go_roundw
        case rel => exact ⟨k + 1, by omega, by go_num, HB.out.skip HR.out (by rw [HNm.out]; exact HF.out) (HC.out.trans hc7)⟩
        case measure => simp [intOf]; omega
      | none =>
        simp only [Option.getD_none, Option.isSome_none] at e2
        refine wp_region_calm (by kernel_rfl) (by kernel_rfl) ?_
        repeat (go_big_quiet_step (fail))
        refine wpQuiet_nil ?_
        intro w7 hc7
        have d0 := Calm.at_ hc7 g0 hzB
        have d1 := Calm.at_ hc7 f1 hlw
        clear e0 e1 e2 g0 f1
        obtain ⟨w8, hrun, hp8⟩ : ∃ w8, (Instr.mapUpdate 75 (.map (some w.heap.size)) (.string (bs nm)) (.int .i64 k)).run Tryd.prog w7.drew = .ok () w8 ∧ Hid (Built w w8 (some ⟨b, o, none⟩) n c ss (k + 1)) := by
          have hc9 : Calm wr w7.drew := HC.out.trans (hc7.trans ((Calm.refl _).drewN 1))
          obtain ⟨D, h1, h2⟩ := HB.out.map
          obtain ⟨w8, hrun, r1, r2⟩ := map_put (MapAt.calm h1 hc9) (show nm.length ≤ 1048576 from hnl) (by omega) k (by omega)
          refine ⟨w8, hrun, ?_⟩
          refine HB.out.put HR.out (by rw [HNm.out]; exact HF.out) hc9 (fun D' hD' => ?_) r2
          rw [HNm.out]
          obtain ⟨w9, hrun9, q1, _⟩ := map_put hD' (show nm.length ≤ 1048576 from hnl) (by omega) k (by omega)
          rw [hrun] at hrun9
          cases hrun9
          exact q1
        go_wp2_with fail
        go_region
        all_goals
          go_wp2
          go_roundw
          case rel => exact ⟨k + 1, by omega, by go_num, hp8⟩
          case measure => simp [intOf]; omega
    · obtain rfl : k = n := by omega
      go_wp2
      go_ret
      exact ⟨⟨_, rfl, HB.out.done (by rw [HN.out]; exact Nat.le_refl _) HN.out HS.out⟩, HB.out.calm⟩

/-- The index of the parent, as the walk meets it. -/
def parV (o : Option Nat) : Value := .tuple #[.int .i64 (o.getD 0 : Nat), .bool o.isSome]

set_option maxHeartbeats 2000000 in
theorem parent_c (ss : List Strm) (F : Nat) (A : Option Addr) (n c i : Nat) (w : World) (hf : ForestAt w F A n c ss) (hi : i < n) :
    Calls Tryd.prog 43 #[.pointer (some ⟨F, 0, none⟩), .int .i64 i] w fun e w' => e = .returned (parV (parentI ss i)) ∧ Calm w w' := by
  obtain ⟨B, hB, hI⟩ := hf.idx
  have hn := hf.hn
  have hlen := hf.strms.len
  rw [hn] at hlen
  obtain ⟨b, o, s, PA, pc, rfl, hb, hr, hat, hsu⟩ := hf.strms.get (k := i) (by rw [hn]; exact hi)
  have hlt := hf.lt
  have c0 := hf.c0
  have c1 := hat.c1
  have hpl := hsu.par
  have hs := strm_at hr
  obtain ⟨pa, hpa⟩ : ∃ pa, s.parent = pa := ⟨_, rfl⟩
  rw [hpa] at c1 hpl
  have hp : parentI ss i = if pa = [] then none else findI ss pa := by unfold parentI; rw [hs, hpa]
  rw [hp]
  clear hp hs hpa hat hsu hr hf hn
  cases pa with
  | nil =>
    have e0 : bs [] = ⟨#[]⟩ := rfl
    rw [e0] at c1
    go_enter Tryd.func43, Tryd.ntmps43
    go_wp2
    go_ret2
    exact ⟨rfl, Calm.refl _⟩
  | cons x t =>
    have hne : (x :: t).isEmpty = false := rfl
    obtain ⟨pa, hpa⟩ : ∃ pa, x :: t = pa := ⟨_, rfl⟩
    have hp0 : pa ≠ [] := by rw [← hpa]; simp
    rw [hpa] at c1 hpl hne ⊢
    rw [if_neg hp0]
    clear hpa hp0
    obtain ⟨fi, hfi⟩ : ∃ fi, findI ss pa = fi := ⟨_, rfl⟩
    have e2 := fun p : CalmTo w => (hI.2 p.w pa p.h hpl).1
    rw [hfi] at e2 ⊢
    have e0 := fun p : CalmTo w => p.cell c0 hlt
    have e1 := fun p : CalmTo w => p.cell hB hlt
    have e3 := fun p : CalmTo w => p.cell c1 hb
    clear hfi hI
    go_enter Tryd.func43, Tryd.ntmps43
    go_wp2_with fail
    refine wp_region_calm (by kernel_rfl) (by kernel_rfl) ?_
    repeat (go_big_quiet_step (fail))
    refine wpQuiet_nil ?_
    intro w7 hc7
    go_wp2
    go_ret2
    exact ⟨rfl, hc7⟩
end Go.Proofs.YtlmclpbkhhgekaaDoor
