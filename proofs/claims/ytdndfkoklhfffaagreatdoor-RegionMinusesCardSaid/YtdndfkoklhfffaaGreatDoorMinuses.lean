/- The law on what is left of a region behind another one beside its specification answers true for every input and leaves its arguments as they were; the listed table holds what the library lays. -/
import Derived.Test.YtdndfkoklhfffaaGreatDoorCards
import Derived.Test.YtdndfkoklhfffaaGreatDoorTie
import Derived.WalkKit
import Derived.ProofKit
import Derived.OpenShut
import Derived.Carry
import Derived.Deep.DeepHandedRow
import Derived.Lib.LaidTab
import GoSem.PinnedTables
import Derived.Test.YtdndfkoklhfffaaGreatDoorLawMinuses
import Derived.Test.YtdndfkoklhfffaaGreatDoorOpenReg
set_option linter.unusedVariables false
set_option linter.unusedSimpArgs false
namespace Go.Proofs.YtdndfkoklhfffaaGreatDoor.regionMinuses
open Go.ChangeShapes Go.WideShapes Go.ChangeAt Go.RowKit Sy

theorem own : ownKnob Tryz.prog.godebug = none := by kernel_rfl
theorem gTab : Tryz.prog.globalNamed "math/bits.deBruijn64tab" = some 0 := by kernel_rfl
theorem gTabType : (Tryz.prog.globals[0]?).map (·.type) = some 93 := by kernel_rfl
theorem cells64 : Tryz.prog.cellsOf 93 = 64 := by kernel_rfl
theorem cells8 : Tryz.prog.cellsOf 5 = 1 := by kernel_rfl
theorem laidOut : laidOutB Tryz.prog = true := by kernel_rfl
def zs : List Int := Lib.deBruijn64tab.map fun n : Nat => (n : Int)
def accZ : List Int := [128, 191, 160, 191, 128, 159, 144, 191, 128, 143, 0, 0, 0, 0, 0, 0, 0, 0, 0, 0, 0, 0, 0, 0, 0, 0, 0, 0, 0, 0, 0, 0]

theorem table {W : World} (h : laidMetH Tryz.prog Rows.regionMinusesRow.laid W) : Lib.TabIs Tryz.prog W "math/bits.deBruijn64tab" .u8 zs :=
  Lib.tabIs_of_head (rest := []) gTab gTabType Tryz.underlying93 Tryz.underlying5 cells8 cells64 h
theorem tab {W : World} (h : laidMetH Tryz.prog Rows.regionMinusesRow.laid W) : Tab W := by
  have hc := fun i hi => (table h).cell gTab i hi
  refine ⟨(cell_lt (hc 0 (by decide))).1, fun j hj => ?_⟩
  have := hc j (by simpa [zs] using hj)
  simpa [zs, List.getElem?_eq_getElem hj] using this

set_option maxRecDepth 100000 in
/-- What the walk gives, for every argument and every world that holds the tables. -/
theorem contract (H : Type) (enc : TypeId × Value → H) (W : World) (base : Nat) (args : Array Value) (ds gs : List (DataW H)) (before : List MemPlace)
    (hval : ∀ (j : Nat) t v, Tryz.f4.params[j]? = some t → args[j]? = some v → Value.okWide Tryz.prog W .any base t v)
    (hW : DataW.Whole enc Tryz.prog Tryz.f4.params.toList Rows.regionMinusesSpec.vars false W args.toList ds gs before)
    (hsz : (DataW.weightsEach Tryz.prog (Tryz.f4.params.toList ++ ((OpenSpec.ofChange Rows.regionMinusesSpec).bare.plain.varTypes Tryz.prog)) (ds ++ gs)).all (· ≤ reachBytes) = true) (hL : laidMetH Tryz.prog Rows.regionMinusesRow.laid W) (hsh : W.ShapedOpen Tryz.prog) :
    Calls Tryz.prog 4 args W fun e W' => ∃ v, e = .returned v ∧ Rows.regionMinusesSpec.post enc Tryz.prog Tryz.f4 false true false false W args v W' := by
  have hW' := hW
  obtain ⟨p, q, hA0, hV, rfl, hfz, hnd⟩ := hW
  have hA : DataW.TrodAll enc Tryz.prog W 0 (fun _ => true) true Tryz.f4.params.toList args.toList ds p := hA0
  rw [Tryz.params4] at hA hval hsz
  obtain ⟨v0, vs0, d0, ds0, p0, q0, hargs, rfl, rfl, h0, r0⟩ := trodAll_cons hA
  obtain ⟨v1, vs1, d1, ds1, p1, q1, rfl, rfl, rfl, h1, r1⟩ := trodAll_cons r0
  obtain ⟨rfl, rfl, rfl⟩ := trodAll_nil r1
  obtain rfl : args = #[v0, v1] := by cases args; simp_all
  obtain ⟨rfl, rfl⟩ := trodVars_none hV
  clear hA0
  simp only [List.append_nil] at hW'
  have hw0 : ∀ n ∈ d0.weights Tryz.prog 27, n ≤ reachBytes := fun n hn => by
    have := List.all_eq_true.1 hsz n (DataW.weights_mem_each (j := 0) rfl rfl n hn)
    simpa using this
  have hw1 : ∀ n ∈ d1.weights Tryz.prog 27, n ≤ reachBytes := fun n hn => by
    have := List.all_eq_true.1 hsz n (DataW.weights_mem_each (j := 1) rfl rfl n hn)
    simpa using this
  obtain ⟨b, hs, A, c, HA, hc, rfl, g1, g2, g3, g4, g5, g6⟩ := open_region (hval 0 27 v0 rfl rfl) h0 hw0
  obtain ⟨b2, hs2, A2, c2, HA2, hc2, rfl, g12, g22, g32, g42, g52, g62⟩ := open_region (hval 1 27 v1 rfl rfl) h1 hw1
  have hlt0 : ∀ x ∈ p0, x.block < W.heap.size := fun x hx => by simpa using hW'.lt x (by simp [hx])
  have hlt1 : ∀ x ∈ p1, x.block < W.heap.size := fun x hx => by simpa using hW'.lt x (by simp [hx])
  refine (minuses_law_c b hs b2 hs2 A c HA hc A2 c2 HA2 hc2 W g1 g2 g3 g4 g5 g6 g12 g22 g32 g42 g52 g62 (tab hL)).mono fun e W' ⟨he, hg⟩ => ?_
  subst he
  have h0' : DataW.Trod enc Tryz.prog W' 0 (fun b => decide (b < W.heap.size)) true 27 _ _ p0 := Below.trod laidOut (by kernel_rfl) (of_decide_eq_true (by kernel_rfl)) h0 hg hlt0
  have h1' : DataW.Trod enc Tryz.prog W' 0 (fun b => decide (b < W.heap.size)) true 27 _ _ p1 := Below.trod laidOut (by kernel_rfl) (of_decide_eq_true (by kernel_rfl)) h1 hg hlt1
  refine ⟨_, rfl, _, _, _, [], _, [], hW', ?_, trodAll_mk2 h0' h1', rfl, hg.frame _, fun h => by cases h⟩
  exact trodAll_mk1 (shut_bool Tryz.underlying4 _)

def argsW : Array Value := #[.agg #[.slice none 0 0, .bool false, .slice none 0 0], .agg #[.slice none 0 0, .bool false, .slice none 0 0]]
/-- A world for the witness: the settled one, the listed tables holding what their text lays. -/
noncomputable def laidWorld (os : Os) : World :=
  { World.holding Tryz.prog os ⟨#[], #[], []⟩ with heap := ((World.holding Tryz.prog os ⟨#[], #[], []⟩).heap.modify 0 (fun
      | .cells _ t frozen => .cells (zs.map fun z => Value.int .u8 z).toArray t frozen
      | o => o)) }
theorem laid_met (os : Os) : laidMet Tryz.prog Rows.regionMinusesRow.laid ((laidWorld os).forCall (fun _ _ => 0) ⟨#[], argsW, []⟩).memory :=
  laidMet_of_run' 8 (by kernel_rfl) (by kernel_rfl)
theorem reads (os : Os) {H : Type} (enc : TypeId × Value → H) : ∃ places, DataW.whole enc Tryz.prog ((laidWorld os).forCall (fun _ _ => 0) ⟨#[], argsW, []⟩).memory Tryz.f4.params.toList Rows.regionMinusesSpec.vars false argsW.toList 8 = some ([.agg [.agg [.nil, .lit (.bool false)], .nil], .agg [.agg [.nil, .lit (.bool false)], .nil]], [], places) :=
  ⟨[], by kernel_rfl⟩

set_option maxRecDepth 100000 in
theorem lifted (os : Os) (started : os.Started) (H : Type) (enc : TypeId × Value → H) (F : Stop.Interp) :
    ReturnsInHanded {} Tryz.checked os 4 .any ((OpenSpec.ofChange Rows.regionMinusesSpec).preRow enc Tryz.prog Tryz.f4 Rows.regionMinusesRow.domain false Rows.regionMinusesRow.laid) (((OpenSpec.ofChange Rows.regionMinusesSpec).at F).post enc Tryz.prog Tryz.f4 false true false false) := by
  obtain ⟨places, hx⟩ := reads os enc
  refine returnsInHanded_of_row (C := Tryz.checked) (s := OpenSpec.ofChange Rows.regionMinusesSpec) own started (by kernel_rfl) Tryz.func4
    (witness_row_at (enc := enc) (C := Tryz.checked) false (laidWorld os) argsW rfl (by kernel_rfl) (by kernel_rfl) (by kernel_rfl)
      (OpenSpec.preRow_of_cond 8 hx (by kernel_rfl) (fun k hk => by cases hk) (by kernel_rfl) (laid_met os))) ?_
  intro W base args ds gs before hval hW hcnd hcond hsz hL hsh _
  exact contract H enc W base args ds gs before hval hW hsz hL hsh

theorem said : Rows.RegionMinusesSaid :=
  OpenClaim.holds_of_cond 4 Tryz.f4 rfl rfl rfl rfl rfl rfl rfl ⟨rfl, rfl, rfl, rfl, rfl⟩ rfl rfl rfl rfl rfl (by kernel_rfl) Tryz.func4 (by kernel_rfl)
    (of_decide_eq_true (by kernel_rfl)) (by unfold Func.isWrapper; first | (rw [if_pos (by decide +kernel)]; kernel_rfl) | (rw [if_neg (by decide +kernel)]; exact ⟨rfl, rfl⟩))
    (fun os started H enc _ F => by rw [OpenClaim.pre_eq_preRow]; exact lifted os started H enc F)

/-- No parameter wants a stand-in; the program's own looks are off: what the card asks. -/
theorem plain (f : FuncId) (fn : Func) (hf : Tryz.pinned.checked.prog.funcNamed "stockyard/stockyardlaw05.RegionMinuses" = some f) (hfn : Tryz.pinned.checked.prog.funcs[f]? = some fn) :
    false = Tryz.pinned.checked.prog.looks [] ∧ ∀ (j : Nat) t, fn.params[j]? = some t → Tryz.pinned.checked.prog.wantsStandIn t = false := by
  obtain rfl : f = 4 := Option.some.inj ((show Tryz.prog.funcNamed "stockyard/stockyardlaw05.RegionMinuses" = some 4 by kernel_rfl).symm.trans hf) |>.symm
  obtain rfl : fn = Tryz.f4 := (Option.some.inj (Tryz.func4.symm.trans hfn)).symm
  refine ⟨by kernel_rfl, fun j t ht => ?_⟩
  rw [Tryz.params4] at ht
  have hm := Array.mem_of_getElem? ht
  simp only [List.mem_toArray, List.mem_cons, List.not_mem_nil, or_false] at hm
  rcases hm with rfl | rfl
  · exact (show Tryz.prog.wantsStandIn 27 = false by kernel_rfl)
  · exact (show Tryz.prog.wantsStandIn 27 = false by kernel_rfl)

/-- THE CARD of RegionMinuses. -/
theorem card : Rows.RegionMinusesCardSaid :=
  Claim7.holds_tied_plain_at .later [] _ _ _ _ said (fun _ h => by cases h) (by kernel_rfl) (fun _ h => by cases h) regionMinuses_row_tie rfl ⟨rfl, rfl⟩ (by kernel_rfl) rfl plain (by kernel_rfl)
end Go.Proofs.YtdndfkoklhfffaaGreatDoor.regionMinuses
