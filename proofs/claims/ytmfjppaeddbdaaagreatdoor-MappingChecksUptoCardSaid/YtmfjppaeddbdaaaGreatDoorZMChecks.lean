/- The law on what makes a mapping answers true for every input of at most 1048576 values and letters and leaves its arguments as they were. The two listed tables hold what the library lays. -/
import Derived.Test.YtmfjppaeddbdaaaGreatDoorCards
import Derived.Test.YtmfjppaeddbdaaaGreatDoorTie
import Derived.WalkKit
import Derived.ProofKit
import Derived.OpenShut
import Derived.Carry
import Derived.Deep.DeepHandedRow
import Derived.Lib.LaidTab
import GoSem.PinnedTables
import Derived.Test.YtmfjppaeddbdaaaGreatDoorZFactsM
import Derived.Test.YtmfjppaeddbdaaaGreatDoorZLawM1
import Derived.Test.YtmfjppaeddbdaaaGreatDoorZOpenEnt
set_option linter.unusedVariables false
set_option linter.unusedSimpArgs false
namespace Go.Proofs.YtmfjppaeddbdaaaGreatDoor.mappingChecksUpto
open Go.ChangeShapes Go.WideShapes Go.ChangeAt Go.RowKit Sy

theorem own : ownKnob Tryz.prog.godebug = none := by kernel_rfl
theorem laidOut : laidOutB Tryz.prog = true := by kernel_rfl
def accZ : List Int := [128, 191, 160, 191, 128, 159, 144, 191, 128, 143, 0, 0, 0, 0, 0, 0, 0, 0, 0, 0, 0, 0, 0, 0, 0, 0, 0, 0, 0, 0, 0, 0]

theorem maxL {W : World} (h : W.ShapedOpen Tryz.prog) : MaxL W := by
  obtain ⟨m, hm⟩ := Tryz.laysM146.s1_3 W h
  exact ⟨(cell_lt hm).1, m, hm⟩

set_option maxRecDepth 100000 in
theorem contract (H : Type) (enc : TypeId × Value → H) (W : World) (base : Nat) (args : Array Value) (ds gs : List (DataW H)) (before : List MemPlace)
    (hval : ∀ (j : Nat) t v, Tryz.f3.params[j]? = some t → args[j]? = some v → Value.okWide Tryz.prog W .any base t v)
    (hW : DataW.Whole enc Tryz.prog Tryz.f3.params.toList Rows.mappingChecksSpec.vars false W args.toList ds gs before)
    (hsz : (DataW.weightsEach Tryz.prog (Tryz.f3.params.toList ++ ((OpenSpec.ofChange Rows.mappingChecksSpec).bare.plain.varTypes Tryz.prog)) (ds ++ gs)).all (· ≤ reachBytes) = true) (hk : Rows.uptoSmall H (ds ++ gs) = true) (hL : laidMetH Tryz.prog Rows.mappingChecksUptoRow.laid W) (hsh : W.ShapedOpen Tryz.prog) :
    Calls Tryz.prog 3 args W fun e W' => ∃ v, e = .returned v ∧ Rows.mappingChecksSpec.post enc Tryz.prog Tryz.f3 false true false false W args v W' := by
  have hW' := hW
  obtain ⟨p, q, hA0, hV, rfl, hfz, hnd⟩ := hW
  have hA : DataW.TrodAll enc Tryz.prog W 0 (fun _ => true) true Tryz.f3.params.toList args.toList ds p := hA0
  rw [Tryz.params3] at hA hval hsz
  obtain ⟨v0, vs0, d0, ds0, p0, q0, hargs, rfl, rfl, h0, r0⟩ := trodAll_cons hA
  obtain ⟨rfl, rfl, rfl⟩ := trodAll_nil r0
  obtain rfl : args = #[v0] := by cases args; simp_all
  obtain ⟨rfl, rfl⟩ := trodVars_none hV
  clear hA0
  simp only [List.append_nil] at hW'
  have hkb : Rows.uptoBulkAll [d0] ≤ 1048576 := of_decide_eq_true hk
  obtain ⟨EA, es, ec, rfl, e1, e2, e3⟩ := open_entsL (hval 0 22 v0 rfl rfl) h0 (bulks.all_part hkb (show d0 ∈ [d0] by simp))
  have hlt0 : ∀ x ∈ p0, x.block < W.heap.size := fun x hx => by simpa using hW'.lt x (by simp [hx])
  refine (mappingChecks_c es es.length ec EA W e1 e2 (by omega) rfl (maxL hsh)).mono fun e W' ⟨he, hg⟩ => ?_
  subst he
  have h0' : DataW.Trod enc Tryz.prog W' 0 (fun b => decide (b < W.heap.size)) true 22 _ _ p0 := Below.trod laidOut (by kernel_rfl) (of_decide_eq_true (by kernel_rfl)) h0 hg hlt0
  refine ⟨_, rfl, _, _, _, [], _, [], hW', ?_, trodAll_mk1 h0', rfl, hg.frame _, fun h => by cases h⟩
  exact trodAll_mk1 (shut_bool Tryz.underlying4 _)

def argsW : Array Value := #[.slice none 0 0]
noncomputable def laidWorld (os : Os) : World :=
  { World.holding Tryz.prog os ⟨#[], #[], []⟩ with heap := (((World.holding Tryz.prog os ⟨#[], #[], []⟩).heap.modify 2 (fun
      | .cells _ t frozen => .cells (accZ.map fun z => Value.int .u8 z).toArray t frozen
      | o => o)).modify 1 (fun
      | .cells _ t frozen => .cells (Go.Pinned.utf8FirstZ.map fun z : Nat => Value.int .u8 (z : Int)).toArray t frozen
      | o => o)) }
theorem laid_met (os : Os) : laidMet Tryz.prog Rows.mappingChecksUptoRow.laid ((laidWorld os).forCall (fun _ _ => 0) ⟨#[], argsW, []⟩).memory :=
  laidMet_of_run' 8 (by kernel_rfl) (by kernel_rfl)
theorem reads (os : Os) {H : Type} (enc : TypeId × Value → H) : ∃ places, DataW.whole enc Tryz.prog ((laidWorld os).forCall (fun _ _ => 0) ⟨#[], argsW, []⟩).memory Tryz.f3.params.toList Rows.mappingChecksSpec.vars false argsW.toList 8 = some ([.nil], [], places) :=
  ⟨[], by kernel_rfl⟩

set_option maxRecDepth 100000 in
theorem lifted (os : Os) (started : os.Started) (H : Type) (enc : TypeId × Value → H) (F : Stop.Interp) :
    ReturnsInHanded {} Tryz.checked os 3 .any ((Rows.OpenSpec.upto Rows.mappingChecksSpec).preRow enc Tryz.prog Tryz.f3 Rows.mappingChecksUptoRow.domain false Rows.mappingChecksUptoRow.laid) (((Rows.OpenSpec.upto Rows.mappingChecksSpec).at F).post enc Tryz.prog Tryz.f3 false true false false) := by
  obtain ⟨places, hx⟩ := reads os enc
  refine returnsInHanded_of_row (C := Tryz.checked) (s := Rows.OpenSpec.upto Rows.mappingChecksSpec) own started (by kernel_rfl) Tryz.func3
    (witness_row_at (enc := enc) (C := Tryz.checked) false (laidWorld os) argsW rfl (by kernel_rfl) (by kernel_rfl) (by kernel_rfl)
      (OpenSpec.preRow_of_cond 8 hx (by kernel_rfl) (fun k hk => by cases hk; kernel_rfl) (by kernel_rfl) (laid_met os))) ?_
  intro W base args ds gs before hval hW hcnd hcond hsz hL hsh _
  exact contract H enc W base args ds gs before hval hW hsz (hcond _ rfl) hL hsh

theorem own0 : (Rows.mappingChecksUptoRow.wf (OpenSpec.ofChange (Rows.OpenSpec.upto Rows.mappingChecksSpec).bare)) = true := by kernel_rfl
theorem own3 : (Tryz.f3.params.all (Tryz.pinned.checked.prog.readableRec ·)) = true := by kernel_rfl
theorem own4 : (namedTie Tryz.pinned.checked.prog Rows.mappingChecksUptoRow.named (Rows.OpenSpec.upto Rows.mappingChecksSpec).bare.vars) = true := by kernel_rfl
theorem own5 : ((Rows.mappingChecksUptoRow.stops == [])) = true := by kernel_rfl
theorem own7 : ((Rows.mappingChecksUptoRow.knobs == [])) = true := by kernel_rfl
theorem own9 : ((Rows.mappingChecksUptoRow.inPlace == Tryz.pinned.checked.prog.inPlace 3)) = true := by kernel_rfl
theorem own10 : ((Rows.mappingChecksUptoRow.unfollowed == Tryz.pinned.checked.prog.unfollowed 3)) = true := by kernel_rfl
theorem own11 : ((Rows.mappingChecksUptoRow.recurses == Tryz.pinned.checked.prog.recurses 3)) = true := by kernel_rfl
theorem own12 : ((Rows.mappingChecksUptoRow.named == Tryz.pinned.checked.prog.varsNamed 3)) = true := by kernel_rfl
theorem own13 : ((Rows.mappingChecksUptoRow.maps == (Tryz.f3.params.toList ++ (Rows.OpenSpec.upto Rows.mappingChecksSpec).bare.plain.varTypes Tryz.pinned.checked.prog).any (Tryz.pinned.checked.prog.mapsRec ·))) = true := by kernel_rfl
theorem own14 : ((Rows.mappingChecksUptoRow.ifaces == (Tryz.f3.params.toList ++ (Rows.OpenSpec.upto Rows.mappingChecksSpec).bare.plain.varTypes Tryz.pinned.checked.prog).any (Tryz.pinned.checked.prog.ifacesRec ·))) = true := by kernel_rfl
theorem own15 : ((Rows.mappingChecksUptoRow.mapsOut == Tryz.pinned.checked.prog.mapsAmong Tryz.f3.resultTypes.toList)) = true := by kernel_rfl
theorem own16 : ((Rows.mappingChecksUptoRow.loops == (Tryz.f3.params.toList ++ (Rows.OpenSpec.upto Rows.mappingChecksSpec).bare.plain.varTypes Tryz.pinned.checked.prog).any (Tryz.pinned.checked.prog.loopsFrom ·))) = true := by kernel_rfl
theorem own17 : ((Rows.mappingChecksUptoRow.wideKeys == (Tryz.f3.params.toList ++ (Rows.OpenSpec.upto Rows.mappingChecksSpec).bare.plain.varTypes Tryz.pinned.checked.prog ++ Tryz.f3.resultTypes.toList).any (Tryz.pinned.checked.prog.wideKeysFrom ·))) = true := by kernel_rfl
theorem own18 : ((Rows.OpenSpec.upto Rows.mappingChecksSpec).bare.vars.all (Tryz.pinned.checked.prog.varReadable ·)) = true := by kernel_rfl
theorem own19 : (Tryz.f3.resultTypes.all (fun t => Tryz.pinned.checked.prog.readableRec t && decide (t < Tryz.pinned.checked.prog.types.size))) = true := by kernel_rfl
theorem own20 : ((Rows.mappingChecksUptoRow.ifacesOut == Tryz.f3.resultTypes.toList.any (Tryz.pinned.checked.prog.ifacesRec ·))) = true := by kernel_rfl
theorem own21 : ((Rows.mappingChecksUptoRow.loopsOut == Tryz.f3.resultTypes.toList.any (Tryz.pinned.checked.prog.loopsFrom ·))) = true := by kernel_rfl
theorem own23 : (Rows.mappingChecksUptoRow.shortTexts.isNone) = true := by kernel_rfl
theorem own28 : ((Rows.mappingChecksUptoRow.kinds == (if Rows.mappingChecksUptoRow.domain.isEmpty then [] else Tryz.f3.params.toList.map fun t => match Tryz.pinned.checked.prog.underlying t with | some (.int k) => some k | _ => none))) = true := by kernel_rfl
theorem own29 : ((Rows.mappingChecksUptoRow.pinned == Rows.mappingChecksUptoRow.pinnedBy)) = true := by kernel_rfl
theorem own30 : ((Rows.mappingChecksUptoRow.veiled == (Tryz.f3.params.toList ++ (Rows.OpenSpec.upto Rows.mappingChecksSpec).bare.plain.varTypes Tryz.pinned.checked.prog ++ Tryz.f3.resultTypes.toList).any (Tryz.pinned.checked.prog.veiledRec ·))) = true := by kernel_rfl
theorem own31 : (Rows.mappingChecksUptoRow.veiledFits Tryz.pinned.checked.prog Tryz.f3.params.toList (Tryz.f3.params.toList ++ (Rows.OpenSpec.upto Rows.mappingChecksSpec).bare.plain.varTypes Tryz.pinned.checked.prog ++ Tryz.f3.resultTypes.toList)) = true := by kernel_rfl
theorem closed : joinedFacts Tryz.pinned.checked.prog 3 Tryz.f3 (Rows.OpenSpec.upto Rows.mappingChecksSpec).bare Rows.mappingChecksUptoRow = true := (fact_and (fact_and (fact_and (fact_and (fact_and (fact_and (fact_and (fact_and (fact_and (fact_and (fact_and (fact_and (fact_and (fact_and (fact_and (fact_and (fact_and (fact_and (fact_and (fact_and (fact_and (fact_and (fact_and (fact_and (fact_and (fact_and (fact_and (fact_and (fact_and (fact_and (fact_and own0 fact1) fact2) own3) own4) own5) fact6) own7) fact8) own9) own10) own11) own12) own13) own14) own15) own16) own17) own18) own19) own20) own21) fact22) own23) fact24) fact25) fact26) fact27) (by kernel_rfl)) own29) own30) own31)
theorem named : Tryz.pinned.checked.prog.funcNamed Rows.mappingChecksUptoRow.func = some 3 := by kernel_rfl
theorem named2 : Tryz.prog.funcNamed "stockyard/stockyardlaw07.MappingChecks" = some 3 := by kernel_rfl
theorem inst : (Tryz.f3).isInstance Tryz.pinned.checked.prog Rows.mappingChecksUptoRow.origin Rows.mappingChecksUptoRow.targs := of_decide_eq_true (by kernel_rfl)
theorem wrap : (Tryz.f3).isWrapper Tryz.pinned.checked.prog Rows.mappingChecksUptoRow.wrapper Rows.mappingChecksUptoRow.mainSum := by unfold Func.isWrapper; first | (rw [if_pos (by decide +kernel)]; kernel_rfl) | (rw [if_neg (by decide +kernel)]; exact ⟨rfl, rfl⟩)
theorem goes : false = Rows.mappingChecksUptoRow.goesBy Tryz.pinned.checked.prog := by kernel_rfl
theorem said : Rows.MappingChecksUptoSaid :=
  OpenClaim.holds_of_cond 3 Tryz.f3 rfl rfl rfl rfl rfl rfl rfl ⟨rfl, rfl, rfl, rfl, rfl⟩ rfl rfl rfl rfl rfl named Tryz.func3 closed
    inst wrap
    (fun os started H enc _ F => by rw [OpenClaim.pre_eq_preRow]; exact lifted os started H enc F)
theorem plain (f : FuncId) (fn : Func) (hf : Tryz.pinned.checked.prog.funcNamed "stockyard/stockyardlaw07.MappingChecks" = some f) (hfn : Tryz.pinned.checked.prog.funcs[f]? = some fn) :
    false = Tryz.pinned.checked.prog.looks [] ∧ ∀ (j : Nat) t, fn.params[j]? = some t → Tryz.pinned.checked.prog.wantsStandIn t = false := by
  obtain rfl : f = 3 := Option.some.inj ((show Tryz.prog.funcNamed "stockyard/stockyardlaw07.MappingChecks" = some 3 from named2).symm.trans hf) |>.symm
  obtain rfl : fn = Tryz.f3 := (Option.some.inj (Tryz.func3.symm.trans hfn)).symm
  refine ⟨factLooks, fun j t ht => ?_⟩
  rw [Tryz.params3] at ht
  have hm := Array.mem_of_getElem? ht
  simp only [List.mem_toArray, List.mem_cons, List.not_mem_nil, or_false] at hm
  subst hm
  exact (show Tryz.prog.wantsStandIn 22 = false by kernel_rfl)
theorem card : Rows.MappingChecksUptoCardSaid :=
  Claim7.holds_tied_plain_at .later [] _ _ _ _ said (fun _ h => by cases h) (by kernel_rfl) (fun _ h => by cases h) mappingChecksUpto_row_tie rfl ⟨rfl, rfl⟩ (by kernel_rfl) rfl plain goes
end Go.Proofs.YtmfjppaeddbdaaaGreatDoor.mappingChecksUpto
