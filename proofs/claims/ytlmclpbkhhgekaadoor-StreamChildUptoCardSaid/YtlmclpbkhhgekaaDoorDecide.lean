/- Walks: slices.Backward over path lines, as an iterator. -/
import Derived.Test.YtlmclpbkhhgekaaDoorStrMem
import Derived.Test.YtlmclpbkhhgekaaDoorCalm
import Derived.Test.YtlmclpbkhhgekaaDoorProg
import Derived.Test.YtlmclpbkhhgekaaDoorFwdP
import Derived.Test.YtlmclpbkhhgekaaDoorItself
import Derived.RangeFuncNested
import Derived.RangeFuncBound
import Derived.RangeFuncCalls
import Derived.RangeFuncLeaves
import Derived.RangeFuncFrom
import Derived.Shelf.Abstract
import Derived.OwnWalkIn
import Derived.TacticsInMore
import Derived.LoopNIn
import Derived.LoopIn
set_option linter.unusedVariables false
set_option linter.unusedSimpArgs false
namespace Go.Proofs.YtlmclpbkhhgekaaDoor
open Go Go.RowKit Go.Shelf Sy

attribute [local go_sem] Oper.semAt_some

/-- The indices that have come when k rounds are over: from the last one down. -/
def down (n k : Nat) : List Nat := (List.range k).map fun j => n - 1 - j
theorem down_succ (n k : Nat) : down n (k + 1) = down n k ++ [n - 1 - k] := by simp [down, List.range_succ]
theorem down_len (n k : Nat) : (down n k).length = k := by simp [down]
theorem mem_down {n k j : Nat} (hk : k ≤ n) : j ∈ down n k ↔ n - k ≤ j ∧ j < n := by
  simp only [down, List.mem_map, List.mem_range]
  constructor
  · rintro ⟨i, hi, rfl⟩; omega
  · rintro ⟨h1, h2⟩; exact ⟨n - 1 - j, by omega, by omega⟩

/-- The line at an index, as a value. -/
def itemV (X : Nat → Line) (P : Nat → Pl) (j : Nat) : Value := .agg #[.int .i64 (X j).kind, .slice (P j).AL (X j).path.parts.length (P j).cl, .bool (X j).path.rest, .slice (P j).AR (X j).frm.parts.length (P j).cr, .bool (X j).frm.rest]

set_option maxRecDepth 100000 in
set_option maxHeartbeats 4000000 in
theorem back1_in (F : Fence) (m : Nat) (h7 : F.fn 81) (hro : F.round = none) (hm : 1 ≤ m) (l Bs n₀ b off n cap : Nat) (A : Option Addr) (hA : 0 < n → A = some ⟨b, off, none⟩) (X : Nat → Line) (P : Nat → Pl) (hreach : n ≤ 2000000) (hb : 0 < n → b < n₀) (J Jx : List Nat → World → Prop)
    (hY : ∀ pre x W, J pre W → pre.length < n → YieldAt F (m - 1) Tryd.prog l #[.int .i64 ((x : Nat) : Int), itemV X P x] W fun e W' =>
      (e = .returned (.bool true) ∧ J (pre ++ [x]) W' ∧ Below n₀ W W') ∨ (e = .returned (.bool false) ∧ Jx (pre ++ [x]) W'))
    (W : World) (hBs : Bs < n₀) (hBc : W.cell? ⟨Bs, 0, none⟩ = some (.slice A n cap)) (hc : ∀ j, j < n → LineAt W b (off + j * 5) (P j) (X j)) (h0 : J [] W) :
    CallsIn F m Tryd.prog 81 #[.func (.yield l) #[] #[], .pointer (some ⟨Bs, 0, none⟩)] W fun e W' => (∃ v, e = .returned v) ∧
      ((∃ ys, ys = down n n ∧ J ys W') ∨ (∃ pre, (∃ k, k ≤ n ∧ pre = down n k) ∧ Jx pre W')) := by
  refine callsIn_of_wp Tryd.func81 rfl h7 ?_ hro
  simp only [Tryd.ntmps81, List.size_toArray, List.length_cons, List.length_nil, Nat.reduceAdd, Nat.reduceSub, Array.replicate_succ, Array.replicate_zero, List.push_toArray, List.append_toArray, List.nil_append, List.cons_append]
  gi_wp2
  gi_loopw [3] (fun i wr => ∃ k : Nat, k ≤ n ∧ i = .int .i64 ((n : Int) - 1 - k) ∧ J (down n k) wr ∧ Below n₀ W wr)
    (fun i _ => (intOf i + 1).toNat)
  case atStart => exact ⟨0, Nat.zero_le _, by simp, h0, Below.refl _ _⟩
  case round =>
    obtain ⟨k, hk, rfl, hJs, hnx⟩ := hrel
    have hBr := (hnx.cell (p := ⟨Bs, 0, none⟩) hBs).trans hBc
    by_cases hlt : k < n
    · obtain rfl := hA (by omega)
      have hb := hb (by omega)
      have hat := hc (n - 1 - k) (by omega)
      have hr : ∀ o, wr.cell? ⟨b, o, none⟩ = W.cell? ⟨b, o, none⟩ := fun o => hnx.cell (p := ⟨b, o, none⟩) hb
      obtain ⟨j, hj⟩ : ∃ j, n - 1 - k = j := ⟨_, rfl⟩
      have hji : ((n : Int) - 1 - k) = (j : Nat) := by omega
      have hjn : j < n := by omega
      obtain ⟨fn, tmps, assign, body, hy, hR⟩ := hY _ j wr hJs (by rw [down_len]; exact hlt)
      rw [hj] at hat
      have c0 := (hr _).trans hat.c0
      have c1 := (hr _).trans hat.c1
      have c2 := (hr _).trans hat.c2
      have c3 := (hr _).trans hat.c3
      have c4 := (hr _).trans hat.c4
      unfold itemV at hy
      rw [hji]
      have hds : J (down n k ++ [j]) = J (down n (k + 1)) := by rw [down_succ, hj]
      have hdx : Jx (down n k ++ [j]) = Jx (down n (k + 1)) := by rw [down_succ, hj]
      rw [hds, hdx] at hR
      clear hds hdx hY hc hat hr hji
      gi_wp2
      refine hR.mono ?_
      rintro e W3 (⟨rfl, hJ3, hk3⟩ | ⟨rfl, hJx3⟩)
      · gi_wp2
        go_roundw
        case rel => exact ⟨k + 1, by omega, by congr 1; omega, hJ3, hnx.trans hk3⟩
        case measure => simp [intOf]
      · gi_wp2
        refine bodyPost_ret (results_none rfl _ _ _) rfl ?_
        exact ⟨⟨_, rfl⟩, .inr ⟨_, ⟨k + 1, by omega, rfl⟩, hJx3⟩⟩
    · obtain rfl : k = n := by omega
      have hneg : (k : Int) - 1 - k = -1 := by omega
      gi_wp2
      go_end0
      exact ⟨⟨_, rfl⟩, .inl ⟨_, rfl, hJs⟩⟩
end Go.Proofs.YtlmclpbkhhgekaaDoor
set_option linter.unusedVariables false
set_option linter.unusedSimpArgs false
namespace Go.Proofs.YtlmclpbkhhgekaaDoor
open Go Go.RowKit Go.Shelf Sy

attribute [local go_sem] Oper.semAt_some

/-- A block of cells, none of them frozen. -/
def Held (W : World) (B : Nat) (vs : Array Value) (t : TypeId) : Prop := W.heap[B]? = some (.cells vs t (0, 0))
theorem Held.lt {W : World} {B : Nat} {vs : Array Value} {t : TypeId} (h : Held W B vs t) : B < W.heap.size := (Array.getElem?_eq_some_iff.1 h).1
theorem held_own {β : Type} (B : Nat) (vs : Array Value) (t : TypeId) : Own (fun (_ : β) W => Held W B vs t) := fun s X Y row hs hg hrow =>
  (hg.block B (Held.lt hs) (fun e' => by obtain ⟨o, ho, hc⟩ := hrow B e'.symm; rw [show X.heap[B]? = _ from hs] at ho; cases ho; cases hc)).trans hs
theorem Held.calm {W W' : World} {B : Nat} {vs : Array Value} {t : TypeId} (h : Held W B vs t) (hc : Calm W W') : Held W' B vs t := (hc.block B h.lt).trans h
theorem Held.cell {W : World} {B : Nat} {vs : Array Value} {t : TypeId} (h : Held W B vs t) {i : Nat} {v : Value} (hv : vs[i]? = some v) : W.cell? ⟨B, i, none⟩ = some v := by
  rw [cell_of_row W B i _ _ _ h]
  exact hv
theorem Held.frozen {W : World} {B : Nat} {vs : Array Value} {t : TypeId} (h : Held W B vs t) (i : Nat) : W.frozen? ⟨B, i, none⟩ = false := by simp [World.frozen?, show W.heap[B]? = _ from h]
theorem Held.new (W : World) (vs : Array Value) (t : TypeId) : Held (W.alloc (.cells vs t)) W.heap.size vs t := World.alloc_heap_new W _

/-- The five values of a line. -/
def itemA (X : Nat → Line) (P : Nat → Pl) (j : Nat) : Array Value := #[.int .i64 (X j).kind, .slice (P j).AL (X j).path.parts.length (P j).cl, .bool (X j).path.rest, .slice (P j).AR (X j).frm.parts.length (P j).cr, .bool (X j).frm.rest]

theorem item_cells {W : World} {B : Nat} {X : Nat → Line} {P : Nat → Pl} {j : Nat} {t : TypeId} (h : Held W B (itemA X P j) t) : W.cell? ⟨B, 0, none⟩ = some (.int .i64 (X j).kind) ∧ W.cell? ⟨B, 1, none⟩ = some (.slice (P j).AL (X j).path.parts.length (P j).cl) ∧ W.cell? ⟨B, 2, none⟩ = some (.bool (X j).path.rest) ∧ W.cell? ⟨B, 3, none⟩ = some (.slice (P j).AR (X j).frm.parts.length (P j).cr) ∧ W.cell? ⟨B, 4, none⟩ = some (.bool (X j).frm.rest) :=
  ⟨h.cell (i := 0) rfl, h.cell (i := 1) rfl, h.cell (i := 2) rfl, h.cell (i := 3) rfl, h.cell (i := 4) rfl⟩
theorem Held.set {W : World} {B : Nat} {vs : Array Value} {t : TypeId} (h : Held W B vs t) (i : Nat) (v : Value) : Held (W.setCell ⟨B, i, none⟩ v) B (vs.setIfInBounds i v) t := by
  unfold Held at *
  simp [World.setCell, Array.getElem?_modify, h]
theorem Held.other {W : World} {B B' : Nat} {vs : Array Value} {t : TypeId} (h : Held W B vs t) (hne : B' ≠ B) (i : Nat) (v : Value) : Held (W.setCell ⟨B', i, none⟩ v) B vs t := by
  unfold Held at *
  simp [World.setCell, Array.getElem?_modify, h, hne]
theorem calm_others {W W' : World} (hc : Calm W W') : KeepsOthers W W' := KeepsOthers.of_grownBy (row := none) ⟨hc.os, hc.tape, hc.output, hc.size, fun k hk _ => hc.block k hk⟩ (fun j o e => by cases e)
theorem back_c (A : Option Addr) (n c : Nat) (w : World) : Calls Tryd.prog 65 #[.slice A n c] w fun e w' => e = .returned (.func (.func 81) #[] #[.pointer (some ⟨w.heap.size, 0, none⟩)]) ∧ w' = w.alloc (.cells #[.slice A n c] 36) := by
  have hmf : ∀ (fn : Fn) (first cap : Array Value) (w : World), (Instr.makeFunc fn first cap).run Tryd.prog w = .ok (.func fn first cap) w := fun _ _ _ _ => rfl
  go_enter Tryd.func65, Tryd.ntmps65
  go_wp2
  go_ret
  exact ⟨rfl, rfl⟩

theorem results_cells2 {fn : Func} {p q : Tmp} {ty tz : TypeId} (h : fn.results = #[.cell p ty, .cell q tz]) (tmps : Array Value) (P : Program) (w : World) :
    (results fn tmps).run P w = ((asAddr (tmps.getD p undef)).run P w).andThen fun a w₁ => ((loadVar ty a).run P w₁).andThen fun v w₂ => ((asAddr (tmps.getD q undef)).run P w₂).andThen fun b w₃ => ((loadVar tz b).run P w₃).andThen fun u w₄ => .ok (.tuple #[v, u]) w₄ := by
  simp only [results, h]
  simp [Sem.run_bind, Result.andThen]

theorem back_stops (F : Fence) (m : Nat) (h7 : F.fn 81) (hro : F.round = none) (hm : 1 ≤ m) (Bs n₀ b off n cap : Nat) (A : Option Addr) (hA : 0 < n → A = some ⟨b, off, none⟩) (X : Nat → Line) (P : Nat → Pl) (hreach : n ≤ 2000000) (hb : 0 < n → b < n₀) (w : World) (hBs : Bs < n₀) (hn₀ : n₀ ≤ w.heap.size)
    (hBc : w.cell? ⟨Bs, 0, none⟩ = some (.slice A n cap)) (hc : ∀ j, j < n → LineAt w b (off + j * 5) (P j) (X j)) :
    SeqStopsK F m Tryd.prog 81 #[.pointer (some ⟨Bs, 0, none⟩)] (fun x : Nat => #[Value.int .i64 ((x : Nat) : Int), itemV X P x]) (Below n₀) (fun ys => ys = down n n) (fun pre => ∃ k, k ≤ n ∧ pre = down n k) n w := fun l J Jx W hW _ _ hY h0 =>
  back1_in F m h7 hro hm l Bs n₀ b off n cap A hA X P hreach hb J Jx hY W hBs ((hW.cell (p := ⟨Bs, 0, none⟩) (Nat.lt_of_lt_of_le hBs hn₀)).trans hBc) (fun j hj => (hc j hj).calm hW (Nat.lt_of_lt_of_le (hb (by omega)) hn₀)) h0

set_option maxRecDepth 100000 in
set_option maxHeartbeats 4000000 in
theorem decide_pos (X : Nat → Line) (P : Nat → Pl) (s : Str) (b off n cap : Nat) (A : Option Addr) (hA : 0 < n → A = some ⟨b, off, none⟩) (w : World) (hreach : n ≤ 2000000) (hb : 0 < n → b < w.heap.size) (hat : ∀ j, j < n → LineAt w b (off + j * 5) (P j) (X j))
    (hm : Hid (∀ (W : World) (j : Nat) (y : Bool), Calm w W → matchS (X j).path s = y → Calls Tryd.prog 66 #[.agg #[.slice (P j).AL (X j).path.parts.length (P j).cl, .bool (X j).path.rest], .string (bs s)] W fun e w' => ∃ A' n' c', e = .returned (.tuple #[.slice A' n' c', .bool y]) ∧ Calm W w')) :
    Calls Tryd.prog 44 #[.slice A n cap, .string (bs s)] w fun e w' =>
      (((∃ j, j < n ∧ matchS (X j).path s = true ∧ (∀ i, j < i → i < n → matchS (X i).path s = false) ∧ e = .returned (.tuple #[itemV X P j, .bool true])) ∨ ((∀ i, i < n → matchS (X i).path s = false) ∧ e = .returned (.tuple #[.agg #[.int .i64 0, .slice none 0 0, .bool false, .slice none 0 0, .bool false], .bool false])))) ∧ Calm w w' := by
  refine (callsIn_wide (n := 9)).1 ?_
  refine callsIn_of_wp_marks Tryd.func44 rfl trivial ?_ rfl
  simp only [Tryd.ntmps44, List.size_toArray, List.length_cons, List.length_nil, Nat.reduceAdd, Nat.reduceSub, Array.replicate_succ, Array.replicate_zero, List.push_toArray, List.append_toArray, List.nil_append, List.cons_append]
  gi_wp2_with (refine ⟨trivial, ?_⟩; gi_at_call 65; refine (callsIn_wide.2 (back_c _ _ _ _)).mono ?_; rintro e w' ⟨rfl, rfl⟩)
  have hB0 : Held (w.alloc (.cells #[.string (bs s)] 9)) w.heap.size #[.string (bs s)] 9 := Held.new _ _ _
  obtain ⟨W0, hW0⟩ : ∃ W0, (((w.alloc (.cells #[.string (bs s)] 9)).alloc (.cells #[.int .i64 0, .slice none 0 0, .bool false, .slice none 0 0, .bool false] 35)).alloc (.cells #[.bool false] 4)).alloc (.cells #[.slice A n cap] 36) = W0 := ⟨_, rfl⟩
  have hC0 : Calm w W0 := by rw [← hW0]; exact ((((Calm.refl w).alloc _).alloc _).alloc _).alloc _
  have hsz : W0.heap.size = w.heap.size + 4 := by rw [← hW0]; simp
  have hS : Held W0 w.heap.size #[.string (bs s)] 9 := by rw [← hW0]; exact hB0.calm ((((Calm.refl _).alloc _).alloc _).alloc _)
  have hL : Held W0 (w.heap.size + 1) #[.int .i64 0, .slice none 0 0, .bool false, .slice none 0 0, .bool false] 35 := by
    rw [← hW0]
    have := Held.new (w.alloc (.cells #[.string (bs s)] 9)) #[.int .i64 0, .slice none 0 0, .bool false, .slice none 0 0, .bool false] 35
    rw [World.size_alloc] at this
    exact this.calm (((Calm.refl _).alloc _).alloc _)
  have hR : Held W0 (w.heap.size + 1 + 1) #[.bool false] 4 := by
    rw [← hW0]
    have := Held.new ((w.alloc (.cells #[.string (bs s)] 9)).alloc (.cells #[.int .i64 0, .slice none 0 0, .bool false, .slice none 0 0, .bool false] 35)) #[.bool false] 4
    rw [World.size_alloc, World.size_alloc] at this
    exact this.calm ((Calm.refl _).alloc _)
  have hI : Held W0 (w.heap.size + 1 + 1 + 1) #[.slice A n cap] 36 := by
    rw [← hW0]
    have := Held.new (((w.alloc (.cells #[.string (bs s)] 9)).alloc (.cells #[.int .i64 0, .slice none 0 0, .bool false, .slice none 0 0, .bool false] 35)).alloc (.cells #[.bool false] 4)) #[.slice A n cap] 36
    rw [World.size_alloc, World.size_alloc, World.size_alloc] at this
    exact this
  rw [hW0]
  clear hW0 hB0
  refine wpIn_rangeFunc_ownH (α := Nat) rfl (by omega) (gf := 81) (lb := #[.pointer (some ⟨w.heap.size + 1 + 1 + 1, 0, none⟩)]) rfl trivial (enters_of Tryd.func81 (by kernel_rfl) rfl)
    (back_stops Fence.wide 8 trivial rfl (by omega) (w.heap.size + 1 + 1 + 1) (w.heap.size + 4) b off n cap A hA X P hreach (fun h => by have := hb h; omega) W0 (by omega) (by omega) (hI.cell rfl) (fun j hj => (hat j hj).calm hC0 (hb (by omega)))) belowK_t (belowK_b (by omega)) (Below.refl _ _) (fun _ => rfl)
    (fun pre W => (((Held W w.heap.size #[.string (bs s)] 9 ∧ Held W (w.heap.size + 1) #[.int .i64 0, .slice none 0 0, .bool false, .slice none 0 0, .bool false] 35) ∧ Held W (w.heap.size + 1 + 1) #[.bool false] 4) ∧ Below w.heap.size w W) ∧ ((∀ x ∈ pre, matchS (X x).path s = false) ∧ w.heap.size + 4 ≤ W.heap.size))
    (fun c pre W => c = .ret ∧ ∃ pre' x, pre = pre' ++ [x] ∧ (∀ y ∈ pre', matchS (X y).path s = false) ∧ matchS (X x).path s = true ∧ Held W (w.heap.size + 1) (itemA X P x) 35 ∧ Held W (w.heap.size + 1 + 1) #[.bool true] 4 ∧ Below w.heap.size w W)
    (OwnFrom.and (OwnFrom.and (OwnFrom.and (OwnFrom.and (Own.from (held_own _ _ _) _) (Own.from (held_own _ _ _) _)) (Own.from (held_own _ _ _) _)) (ownFrom_below (Nat.le_refl _) (by omega))) (OwnFrom.and (fun _ _ _ _ hs _ _ => hs) (fun _ _ _ _ hs hg _ => Nat.le_trans hs hg.size)))
    (fun c pre A B row hs hg hr => by
      obtain ⟨h1, pre', x, h2, h3, h4, h5, h6, h7⟩ := hs
      exact ⟨h1, pre', x, h2, h3, h4, held_own _ _ _ () A B row h5 hg (fun r e => (hr r e).2), held_own _ _ _ () A B row h6 hg (fun r e => (hr r e).2), h7.grown hg h7.size (fun k e => by have := (hr k e).1; omega)⟩)
    ⟨⟨⟨⟨hS, hL⟩, hR⟩, hC0⟩, (fun x hx => by cases hx), by omega⟩
    (fun x a' W => ∃ Bx, w.heap.size + 4 ≤ Bx ∧ Held W Bx (itemA X P x) 35 ∧ a' = { tmps := #[.slice A n cap, .string (bs s), undef, .pointer (some ⟨w.heap.size, 0, none⟩), .pointer (some ⟨w.heap.size + 1, 0, none⟩), .pointer (some ⟨w.heap.size + 1 + 1, 0, none⟩), undef, .pointer (some ⟨Bx, 0, none⟩), undef, undef, .slice A n cap, .func (.func 81) #[] #[.pointer (some ⟨w.heap.size + 1 + 1 + 1, 0, none⟩)], .int .i64 ((x : Nat) : Int), itemV X P x, undef, undef, undef, undef, undef, undef, undef, undef, undef, undef], defers := [] })
    (fun x a' _ U V row hs hg hr => by obtain ⟨Bx, h1, h2, h3⟩ := hs; exact ⟨Bx, h1, held_own Bx _ _ () U V row h2 hg (fun r e => (hr r e).2), h3⟩)
    ?assign ?body ?done ?stop
  case assign =>
    rintro l pre x W K ⟨⟨⟨⟨hS1, hL1⟩, hR1⟩, hC1⟩, hM1, hz1⟩ hK
    unfold itemV
    gi_wp2
    have hca : Calm W (W.alloc (.cells #[.int .i64 (X x).kind, .slice (P x).AL (X x).path.parts.length (P x).cl, .bool (X x).path.rest, .slice (P x).AR (X x).frm.parts.length (P x).cr, .bool (X x).frm.rest] 35)) := (Calm.refl W).alloc _
    exact hK _ _ ((KeepsOthers.alloc _ _).from _) ((Below.refl _ W).alloc hz1 _) ⟨⟨⟨⟨hS1.calm hca, hL1.calm hca⟩, hR1.calm hca⟩, hC1.trans ((Below.refl _ W).alloc hC1.size _)⟩, hM1, Nat.le_trans hz1 hca.size⟩ ⟨W.heap.size, hz1, Held.new _ _ _, rfl⟩
  case body =>
    rintro l pre x a' W hl ⟨r, hr⟩ ⟨⟨⟨⟨hS1, hL1⟩, hR1⟩, hC1⟩, hM1, hz1⟩ ⟨Bx, hBx, hX1, rfl⟩ hlt
    have cS := hS1.cell (i := 0) rfl
    obtain ⟨c0, c1, c2, c3, c4⟩ := item_cells hX1
    unfold itemV
    rcases hy : matchS (X x).path s with _ | _
    · have K1 := hm.out W x false hC1 hy
      gi_wp2_with (refine ⟨trivial, ?_⟩; gi_at_call 66; refine (CallsIn.inRound l (callsIn_wide.2 K1)).mono ?_; rintro e w2 ⟨A2, n2, c2, rfl, hc2⟩)
      exact ⟨(calm_others hc2).from _, hc2.mono hz1, ⟨⟨⟨⟨hS1.calm hc2, hL1.calm hc2⟩, hR1.calm hc2⟩, hC1.trans (hc2.mono hC1.size)⟩, (fun y hy2 => by
        rcases List.mem_append.1 hy2 with h | h
        · exact hM1 y h
        · rw [List.mem_singleton] at h
          subst h
          exact hy), Nat.le_trans hz1 hc2.size⟩⟩
    · have K1 := hm.out W x true hC1 hy
      gi_wp2_with (refine ⟨trivial, ?_⟩; gi_at_call 66; refine (CallsIn.inRound l (callsIn_wide.2 K1)).mono ?_; rintro e w2 ⟨A2, n2, c2, rfl, hc2⟩; have z0 := (hL1.calm hc2).cell (i := 0) rfl; have z1 := (hL1.calm hc2).cell (i := 1) rfl; have z2 := (hL1.calm hc2).cell (i := 2) rfl; have z3 := (hL1.calm hc2).cell (i := 3) rfl; have z4 := (hL1.calm hc2).cell (i := 4) rfl; have zf := (hL1.calm hc2).frozen; have y0 := (hR1.calm hc2).cell (i := 0) rfl; have yf := (hR1.calm hc2).frozen; obtain ⟨d0, d1, d2, d3, d4⟩ := item_cells (hX1.calm hc2))
      have kL := hL1.calm hc2
      have kR := hR1.calm hc2
      have ko := calm_others hc2
      have hcw := hC1.trans (hc2.mono hC1.size)
      refine ⟨KeepsOthers.from ?_ _, rfl, pre, x, rfl, hM1, hy, ?_, ?_, ?_⟩
      · exact (((((ko.trans (KeepsOthers.setCell _ _ _)).trans (KeepsOthers.setCell _ _ _)).trans (KeepsOthers.setCell _ _ _)).trans (KeepsOthers.setCell _ _ _)).trans (KeepsOthers.setCell _ _ _)).trans (KeepsOthers.setCell _ _ _)
      · exact (((((kL.set 0 _).set 1 _).set 2 _).set 3 _).set 4 _).other (by omega) 0 _
      · exact (((((kR.other (by omega) 0 _).other (by omega) 1 _).other (by omega) 2 _).other (by omega) 3 _).other (by omega) 4 _).set 0 _
      · exact (((((hcw.setCell (p := ⟨w.heap.size + 1, 0, none⟩) (Nat.le_succ _) _).setCell (p := ⟨w.heap.size + 1, 1, none⟩) (Nat.le_succ _) _).setCell (p := ⟨w.heap.size + 1, 2, none⟩) (Nat.le_succ _) _).setCell (p := ⟨w.heap.size + 1, 3, none⟩) (Nat.le_succ _) _).setCell (p := ⟨w.heap.size + 1, 4, none⟩) (Nat.le_succ _) _).setCell (p := ⟨w.heap.size + 1 + 1, 0, none⟩) (Nat.le_trans (Nat.le_succ _) (Nat.le_succ _)) _
  case done =>
    rintro D ys W hD hys ⟨⟨⟨⟨hS1, hL1⟩, hR1⟩, hC1⟩, hM1, hz1⟩ hK
    have z0 := hL1.cell (i := 0) rfl
    have z1 := hL1.cell (i := 1) rfl
    have z2 := hL1.cell (i := 2) rfl
    have z3 := hL1.cell (i := 3) rfl
    have z4 := hL1.cell (i := 4) rfl
    have zf := hL1.frozen
    have y0 := hR1.cell (i := 0) rfl
    have yf := hR1.frozen
    gi_wp2
    have kL := (((((hL1.set 0 (.int .i64 0)).set 1 (.slice none 0 0)).set 2 (.bool false)).set 3 (.slice none 0 0)).set 4 (.bool false)).other (B' := w.heap.size + 1 + 1) (by omega) 0 (.bool false)
    have kR := (((((hR1.other (B' := w.heap.size + 1) (by omega) 0 (.int .i64 0)).other (B' := w.heap.size + 1) (by omega) 1 (.slice none 0 0)).other (B' := w.heap.size + 1) (by omega) 2 (.bool false)).other (B' := w.heap.size + 1) (by omega) 3 (.slice none 0 0)).other (B' := w.heap.size + 1) (by omega) 4 (.bool false)).set 0 (.bool false)
    obtain ⟨W5, hW5⟩ : ∃ W5, (((((((W.setCell ⟨w.heap.size + 1, 0, none⟩ (.int .i64 0)).setCell ⟨w.heap.size + 1, 1, none⟩ (.slice none 0 0)).setCell ⟨w.heap.size + 1, 2, none⟩ (.bool false)).setCell ⟨w.heap.size + 1, 3, none⟩ (.slice none 0 0)).setCell ⟨w.heap.size + 1, 4, none⟩ (.bool false)).setCell ⟨w.heap.size + 1 + 1, 0, none⟩ (.bool false))) = W5 := ⟨_, rfl⟩
    have hkd : KeepsOthers W W5 := by
      have ko := KeepsOthers.refl W
      rw [← hW5]
      exact (((((ko.trans (KeepsOthers.setCell _ _ _)).trans (KeepsOthers.setCell _ _ _)).trans (KeepsOthers.setCell _ _ _)).trans (KeepsOthers.setCell _ _ _)).trans (KeepsOthers.setCell _ _ _)).trans (KeepsOthers.setCell _ _ _)
    have hcd : Calm w W5 := by
      rw [← hW5]
      exact (((((hC1.setCell (p := ⟨w.heap.size + 1, 0, none⟩) (Nat.le_succ _) _).setCell (p := ⟨w.heap.size + 1, 1, none⟩) (Nat.le_succ _) _).setCell (p := ⟨w.heap.size + 1, 2, none⟩) (Nat.le_succ _) _).setCell (p := ⟨w.heap.size + 1, 3, none⟩) (Nat.le_succ _) _).setCell (p := ⟨w.heap.size + 1, 4, none⟩) (Nat.le_succ _) _).setCell (p := ⟨w.heap.size + 1 + 1, 0, none⟩) (Nat.le_trans (Nat.le_succ _) (Nat.le_succ _)) _
    rw [hW5] at kL kR ⊢
    clear hW5
    have hK5 := hkd.same D _ hK rfl
    have pL := held_own (β := Unit) _ _ _ () _ _ _ kL (grownBy_putObj' W5 D (.deferred none)) (fun r e => by cases e; exact ⟨_, hK5, rfl⟩)
    have pR := held_own (β := Unit) _ _ _ () _ _ _ kR (grownBy_putObj' W5 D (.deferred none)) (fun r e => by cases e; exact ⟨_, hK5, rfl⟩)
    have hcp : Calm w (W5.putObj D (.deferred none)) := Below.trans hcd (belowK_b (w := w) (Nat.le_refl _) W5 D _ _ (by omega) hK5 rfl rfl)
    refine ⟨by simp, .inl ⟨_, _, rfl, run_takeDeferred hK5, ?_⟩⟩
    refine ⟨.tuple #[.agg #[.int .i64 0, .slice none 0 0, .bool false, .slice none 0 0, .bool false], .bool false], ?_, ?_⟩
    · rw [results_cells2 rfl]
      have z0 := pL.cell (i := 0) rfl
      have z1 := pL.cell (i := 1) rfl
      have z2 := pL.cell (i := 2) rfl
      have z3 := pL.cell (i := 3) rfl
      have z4 := pL.cell (i := 4) rfl
      have y0 := pR.cell (i := 0) rfl
      clear hS1 hL1 hR1 kL kR pL pR
      go_simp
    · subst hys
      exact ⟨.inr ⟨fun i hi => hM1 i ((mem_down (Nat.le_refl n)).2 ⟨by omega, hi⟩), rfl⟩, hcp⟩
  case stop =>
    rintro D c pre W hD ⟨k, hk, hpre⟩ ⟨rfl, pre', x, h1, h2, h3, h4, h5, h6⟩ hK
    have hkx : ∃ k', k = k' + 1 ∧ x = n - 1 - k' ∧ pre' = down n k' := by
      match k with
      | 0 =>
        rw [h1] at hpre
        simp [down] at hpre
      | k' + 1 =>
        rw [h1, down_succ] at hpre
        obtain ⟨e1, e2⟩ := List.append_inj' hpre rfl
        simp only [List.cons.injEq, and_true] at e2
        exact ⟨k', rfl, e2, e1⟩
    obtain ⟨k', rfl, rfl, rfl⟩ := hkx
    have pL := held_own (β := Unit) _ _ _ () _ _ _ h4 (grownBy_putObj' W D (.deferred none)) (fun r e => by cases e; exact ⟨_, hK, rfl⟩)
    have pR := held_own (β := Unit) _ _ _ () _ _ _ h5 (grownBy_putObj' W D (.deferred none)) (fun r e => by cases e; exact ⟨_, hK, rfl⟩)
    have hcp : Calm w (W.putObj D (.deferred none)) := Below.trans h6 (belowK_b (w := w) (Nat.le_refl _) W D _ _ (by omega) hK rfl rfl)
    gi_wp2
    refine ⟨by simp, .inl ⟨_, _, rfl, run_takeDeferred hK, ?_⟩⟩
    refine ⟨.tuple #[itemV X P (n - 1 - k'), .bool true], ?_, ?_⟩
    · unfold itemV
      rw [results_cells2 rfl]
      obtain ⟨z0, z1, z2, z3, z4⟩ := item_cells pL
      have y0 := pR.cell (i := 0) rfl
      clear h4 h5 pL pR
      go_simp
    · exact ⟨.inl ⟨n - 1 - k', by omega, h3, fun i hi1 hi2 => h2 i ((mem_down (by omega)).2 ⟨by omega, hi2⟩), rfl⟩, hcp⟩

/-- The lines of a slice by their index, where there are any. -/
theorem LinesU.items {w : World} {A : Option Addr} {ls : List Line} {n : Nat} (h : LinesU w A ls) (hn : ls.length = n) (h0 : 0 < n) : ∃ (b o : Nat) (X : Nat → Line) (P : Nat → Pl), A = some ⟨b, o, none⟩ ∧ b < w.heap.size ∧ (∀ j, j < n → ls[j]? = some (X j)) ∧ (∀ j, j < n → LineAt w b (o + j * 5) (P j) (X j)) ∧ (∀ j, RuleU w (P j) (X j).rule ∧ X j ∈ ls) := by
  obtain ⟨b, o, hA, hb, hk⟩ := h.at_ (by omega)
  have hex : ∀ j : Nat, ∃ y : Line × Pl, (j < n → ls[j]? = some y.1 ∧ LineAt w b (o + j * 5) y.2 y.1) ∧ RuleU w y.2 y.1.rule ∧ y.1 ∈ ls := fun j => by
    by_cases hj : j < n
    · have hx := List.getElem?_eq_getElem (show j < ls.length by omega)
      obtain ⟨a, h1, h2⟩ := hk j _ hx
      exact ⟨⟨_, a⟩, fun _ => ⟨hx, h1⟩, h2, List.getElem_mem _⟩
    · have hx := List.getElem?_eq_getElem (show 0 < ls.length by omega)
      obtain ⟨a, h1, h2⟩ := hk 0 _ hx
      exact ⟨⟨_, a⟩, fun h => absurd h hj, h2, List.getElem_mem _⟩
  exact ⟨b, o, fun j => (Classical.choose (hex j)).1, fun j => (Classical.choose (hex j)).2, hA, hb, fun j hj => ((Classical.choose_spec (hex j)).1 hj).1, fun j hj => ((Classical.choose_spec (hex j)).1 hj).2, fun j => (Classical.choose_spec (hex j)).2⟩

/-- What deciding hands back. -/
def decV (a : Pl) : Option Line → Value
  | some x => .tuple #[lineV a x, .bool true]
  | none => .tuple #[.agg #[.int .i64 0, .slice none 0 0, .bool false, .slice none 0 0, .bool false], .bool false]
theorem pmatch_c (p : Pat) (s : Str) (y : Bool) (A : Option Addr) (c : Nat) (W : World) (hs : s.length ≤ 10000) (hr : StrsR W A p.parts) (hpc : p.parts.length ≤ c) (hc47 : c ≤ 9223372036854775807) (hM : MaxL W) (hy : matchS p s = y) :
    Calls Tryd.prog 66 #[.agg #[.slice A p.parts.length c, .bool p.rest], .string (bs s)] W fun e w' => ∃ A' n' c', e = .returned (.tuple #[.slice A' n' c', .bool y]) ∧ Calm W w' := by
  refine (match_c p s A c W hs hr hpc hc47 hM).mono fun e w' ⟨h1, h2⟩ => ?_
  rcases h1 with ⟨h3, A', c', h4, _⟩ | ⟨h3, h4⟩
  · rw [hy] at h3
    subst h3
    exact ⟨_, _, _, h4, h2⟩
  · rw [hy] at h3
    subst h3
    exact ⟨_, _, _, h4, h2⟩
theorem decide_c (ls : List Line) (s : Str) (A : Option Addr) (n cap : Nat) (w : World) (hl : LinesU w A ls) (hn : ls.length = n) (hs : s.length ≤ 10000) (hM : MaxL w) (hsm : ∀ x ∈ ls, SmallV x.rule) :
    Calls Tryd.prog 44 #[.slice A n cap, .string (bs s)] w fun e w' => (∃ a, e = .returned (decV a (decLine ls s)) ∧ ∀ x, decLine ls s = some x → RuleU w a x.rule ∧ x ∈ ls) ∧ Calm w w' := by
  have hlen := hl.len
  by_cases h0 : 0 < n
  · obtain ⟨b, o, X, P, hA, hb, hX, hat, hru⟩ := hl.items hn h0
    refine (decide_pos X P s b o n cap A (fun _ => hA) w (by omega) (fun _ => hb) hat (fun W j y hW hy => pmatch_c (X j).path s y _ _ W hs (((hru j).1.left (hsm _ (hru j).2).small).calm hW) (hru j).1.lroom (hru j).1.lcap (hM.calm hW) hy)).mono fun e w' ⟨h1, h2⟩ => ⟨?_, h2⟩
    rcases h1 with ⟨j, hj, h3, h4, h5⟩ | ⟨h3, h4⟩
    · have hd : decLine ls s = some (X j) := decLine_at (hX j hj) h3 (fun i y hi hy => by
        have hin : i < n := by rw [← hn]; exact (List.getElem?_eq_some_iff.1 hy).1
        rw [hX i hin] at hy
        cases hy
        exact h4 i hi hin)
      refine ⟨P j, by rw [hd]; exact h5, fun x hx => ?_⟩
      rw [hd] at hx
      cases hx
      exact hru j
    · have hd : decLine ls s = none := decLine_nil (fun i y hy => by
        have hin : i < n := by rw [← hn]; exact (List.getElem?_eq_some_iff.1 hy).1
        rw [hX i hin] at hy
        cases hy
        exact h3 i hin)
      exact ⟨default, by rw [hd]; exact h4, fun x hx => by rw [hd] at hx; cases hx⟩
  · obtain rfl : n = 0 := by omega
    have hnil : ls = [] := List.eq_nil_of_length_eq_zero hn
    subst hnil
    refine (decide_pos (fun _ => ⟨0, ⟨[], false⟩, ⟨[], false⟩⟩) (fun _ => ⟨none, 0, none, 0⟩) s 0 0 0 cap A (fun h => absurd h (Nat.lt_irrefl _)) w (by omega) (fun h => absurd h (Nat.lt_irrefl _)) (fun j hj => absurd hj (Nat.not_lt_zero _)) (fun W j y hW hy => pmatch_c ⟨[], false⟩ s y none 0 W hs ⟨by simp, (fun l hl => by cases hl), (fun h => absurd h (Nat.lt_irrefl _))⟩ (Nat.le_refl _) (by omega) (hM.calm hW) hy)).mono fun e w' ⟨h1, h2⟩ => ⟨?_, h2⟩
    rcases h1 with ⟨j, hj, _⟩ | ⟨h3, h4⟩
    · exact absurd hj (Nat.not_lt_zero _)
    · exact ⟨default, h4, fun x hx => by simp [decLine] at hx⟩
end Go.Proofs.YtlmclpbkhhgekaaDoor
