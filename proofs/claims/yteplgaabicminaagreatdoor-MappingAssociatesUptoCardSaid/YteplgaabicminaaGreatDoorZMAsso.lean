/- The law on three mappings composed in either order answers true for every input of at most 1048576 values and letters and leaves its arguments as they were. The two listed tables hold what the library lays. -/
import Derived.Test.YteplgaabicminaaGreatDoorCards
import Derived.Test.YteplgaabicminaaGreatDoorTie
import Derived.WalkKit
import Derived.ProofKit
import Derived.OpenShut
import Derived.Carry
import Derived.Deep.DeepHandedRow
import Derived.Lib.LaidTab
import GoSem.PinnedTables
import Derived.Test.YteplgaabicminaaGreatDoorZFactsC
import Derived.Test.YteplgaabicminaaGreatDoorZLawM4
import Derived.Test.YteplgaabicminaaGreatDoorZOpenEnt
set_option linter.unusedVariables false
set_option linter.unusedSimpArgs false
namespace Go.Proofs.YteplgaabicminaaGreatDoor.mappingAssociatesUpto
open Go.ChangeShapes Go.WideShapes Go.ChangeAt Go.RowKit Sy

theorem own : ownKnob Tryz.prog.godebug = none := by kernel_rfl
theorem laidOut : laidOutB Tryz.prog = true := by kernel_rfl
def accZ : List Int := [128, 191, 160, 191, 128, 159, 144, 191, 128, 143, 0, 0, 0, 0, 0, 0, 0, 0, 0, 0, 0, 0, 0, 0, 0, 0, 0, 0, 0, 0, 0, 0]

theorem maxL {W : World} (h : W.ShapedOpen Tryz.prog) : MaxL W := by
  obtain ⟨m, hm⟩ := Tryz.laysM146.s1_3 W h
  exact ⟨(cell_lt hm).1, m, hm⟩

set_option maxRecDepth 100000 in
theorem contract (H : Type) (enc : TypeId × Value → H) (W : World) (base : Nat) (args : Array Value) (ds gs : List (DataW H)) (before : List MemPlace)
    (hval : ∀ (j : Nat) t v, Tryz.f6.params[j]? = some t → args[j]? = some v → Value.okWide Tryz.prog W .any base t v)
    (hW : DataW.Whole enc Tryz.prog Tryz.f6.params.toList Rows.mappingAssociatesSpec.vars false W args.toList ds gs before)
    (hsz : (DataW.weightsEach Tryz.prog (Tryz.f6.params.toList ++ ((OpenSpec.ofChange Rows.mappingAssociatesSpec).bare.plain.varTypes Tryz.prog)) (ds ++ gs)).all (· ≤ reachBytes) = true) (hk : Rows.uptoSmall H (ds ++ gs) = true) (hL : laidMetH Tryz.prog Rows.mappingAssociatesUptoRow.laid W) (hsh : W.ShapedOpen Tryz.prog) :
    Calls Tryz.prog 6 args W fun e W' => ∃ v, e = .returned v ∧ Rows.mappingAssociatesSpec.post enc Tryz.prog Tryz.f6 false true false false W args v W' := by
  have hW' := hW
  obtain ⟨p, q, hA0, hV, rfl, hfz, hnd⟩ := hW
  have hA : DataW.TrodAll enc Tryz.prog W 0 (fun _ => true) true Tryz.f6.params.toList args.toList ds p := hA0
  rw [Tryz.params6] at hA hval hsz
  obtain ⟨v0, vs0, d0, ds0, p0, q0, hargs, rfl, rfl, h0, r0⟩ := trodAll_cons hA
  obtain ⟨v1, vs1, d1, ds1, p1, q1, rfl, rfl, rfl, h1, r1⟩ := trodAll_cons r0
  obtain ⟨v2, vs2, d2, ds2, p2, q2, rfl, rfl, rfl, h2, r2⟩ := trodAll_cons r1
  obtain ⟨v3, vs3, d3, ds3, p3, q3, rfl, rfl, rfl, h3, r3⟩ := trodAll_cons r2
  obtain ⟨rfl, rfl, rfl⟩ := trodAll_nil r3
  obtain rfl : args = #[v0, v1, v2, v3] := by cases args; simp_all
  obtain ⟨rfl, rfl⟩ := trodVars_none hV
  clear hA0
  simp only [List.append_nil] at hW'
  have hkb : Rows.uptoBulkAll [d0, d1, d2, d3] ≤ 1048576 := of_decide_eq_true hk
  obtain ⟨EA, es, ec, rfl, e1, e2, e3⟩ := open_entsL (hval 0 22 v0 rfl rfl) h0 (bulks.all_part hkb (show d0 ∈ [d0, d1, d2, d3] by simp))
  obtain ⟨EA2, es2, ec2, rfl, e12, e22, e32⟩ := open_entsL (hval 1 22 v1 rfl rfl) h1 (bulks.all_part hkb (show d1 ∈ [d0, d1, d2, d3] by simp))
  obtain ⟨EA3, es3, ec3, rfl, e13, e23, e33⟩ := open_entsL (hval 2 22 v2 rfl rfl) h2 (bulks.all_part hkb (show d2 ∈ [d0, d1, d2, d3] by simp))
  obtain ⟨s, rfl, hsd, hs1⟩ := open_strD (hval 3 9 v3 rfl rfl) h3
  have hsb := bulks.all_part hkb (show d3 ∈ [d0, d1, d2, d3] by simp)
  rw [hsd, bulks.string_eq] at hsb
  have hs1 : s.length ≤ 1048576 := by omega
  have hlt0 : ∀ x ∈ p0, x.block < W.heap.size := fun x hx => by simpa using hW'.lt x (by simp [hx])
  have hlt1 : ∀ x ∈ p1, x.block < W.heap.size := fun x hx => by simpa using hW'.lt x (by simp [hx])
  have hlt2 : ∀ x ∈ p2, x.block < W.heap.size := fun x hx => by simpa using hW'.lt x (by simp [hx])
  have hlt3 : ∀ x ∈ p3, x.block < W.heap.size := fun x hx => by simpa using hW'.lt x (by simp [hx])
  refine (mappingAssociates_c es es2 es3 s es.length ec es2.length ec2 es3.length ec3 EA EA2 EA3 W e1 e2 (by omega) rfl e12 e22 (by omega) rfl e13 e23 (by omega) rfl hs1 (maxL hsh)).mono fun e W' ⟨he, hg⟩ => ?_
  subst he
  have h0' : DataW.Trod enc Tryz.prog W' 0 (fun b => decide (b < W.heap.size)) true 22 _ _ p0 := Below.trod laidOut (by kernel_rfl) (of_decide_eq_true (by kernel_rfl)) h0 hg hlt0
  have h1' : DataW.Trod enc Tryz.prog W' 0 (fun b => decide (b < W.heap.size)) true 22 _ _ p1 := Below.trod laidOut (by kernel_rfl) (of_decide_eq_true (by kernel_rfl)) h1 hg hlt1
  have h2' : DataW.Trod enc Tryz.prog W' 0 (fun b => decide (b < W.heap.size)) true 22 _ _ p2 := Below.trod laidOut (by kernel_rfl) (of_decide_eq_true (by kernel_rfl)) h2 hg hlt2
  have h3' : DataW.Trod enc Tryz.prog W' 0 (fun b => decide (b < W.heap.size)) true 9 _ _ p3 := Below.trod laidOut (by kernel_rfl) (of_decide_eq_true (by kernel_rfl)) h3 hg hlt3
  refine ⟨_, rfl, _, _, _, [], _, [], hW', ?_, trodAll_mk4 h0' h1' h2' h3', rfl, hg.frame _, fun h => by cases h⟩
  exact trodAll_mk1 (shut_bool Tryz.underlying4 _)

def argsW : Array Value := #[.slice none 0 0, .slice none 0 0, .slice none 0 0, .string ⟨#[]⟩]
noncomputable def laidWorld (os : Os) : World :=
  { World.holding Tryz.prog os ⟨#[], #[], []⟩ with heap := (((World.holding Tryz.prog os ⟨#[], #[], []⟩).heap.modify 2 (fun
      | .cells _ t frozen => .cells (accZ.map fun z => Value.int .u8 z).toArray t frozen
      | o => o)).modify 1 (fun
      | .cells _ t frozen => .cells (Go.Pinned.utf8FirstZ.map fun z : Nat => Value.int .u8 (z : Int)).toArray t frozen
      | o => o)) }
theorem laid_met (os : Os) : laidMet Tryz.prog Rows.mappingAssociatesUptoRow.laid ((laidWorld os).forCall (fun _ _ => 0) ⟨#[], argsW, []⟩).memory :=
  laidMet_of_run' 8 (by kernel_rfl) (by kernel_rfl)
theorem reads (os : Os) {H : Type} (enc : TypeId × Value → H) : ∃ places, DataW.whole enc Tryz.prog ((laidWorld os).forCall (fun _ _ => 0) ⟨#[], argsW, []⟩).memory Tryz.f6.params.toList Rows.mappingAssociatesSpec.vars false argsW.toList 8 = some ([.nil, .nil, .nil, .lit (.string [])], [], places) :=
  ⟨[], by kernel_rfl⟩

set_option maxRecDepth 100000 in
theorem lifted (os : Os) (started : os.Started) (H : Type) (enc : TypeId × Value → H) (F : Stop.Interp) :
    ReturnsInHanded {} Tryz.checked os 6 .any ((Rows.OpenSpec.upto Rows.mappingAssociatesSpec).preRow enc Tryz.prog Tryz.f6 Rows.mappingAssociatesUptoRow.domain false Rows.mappingAssociatesUptoRow.laid) (((Rows.OpenSpec.upto Rows.mappingAssociatesSpec).at F).post enc Tryz.prog Tryz.f6 false true false false) := by
  obtain ⟨places, hx⟩ := reads os enc
  refine returnsInHanded_of_row (C := Tryz.checked) (s := Rows.OpenSpec.upto Rows.mappingAssociatesSpec) own started (by kernel_rfl) Tryz.func6
    (witness_row_at (enc := enc) (C := Tryz.checked) false (laidWorld os) argsW rfl (by kernel_rfl) (by kernel_rfl) (by kernel_rfl)
      (OpenSpec.preRow_of_cond 8 hx (by kernel_rfl) (fun k hk => by cases hk; kernel_rfl) (by kernel_rfl) (laid_met os))) ?_
  intro W base args ds gs before hval hW hcnd hcond hsz hL hsh _
  exact contract H enc W base args ds gs before hval hW hsz (hcond _ rfl) hL hsh

theorem own0 : (Rows.mappingAssociatesUptoRow.wf (OpenSpec.ofChange (Rows.OpenSpec.upto Rows.mappingAssociatesSpec).bare)) = true := by kernel_rfl
theorem own1 : (laidOutB Tryz.pinned.checked.prog) = true := fact1
theorem own2 : (mapsRowed Tryz.pinned.checked.prog) = true := fact2
theorem own3 : (Tryz.f6.params.all (Tryz.pinned.checked.prog.readableRec ·)) = true := by kernel_rfl
theorem own4 : (namedTie Tryz.pinned.checked.prog Rows.mappingAssociatesUptoRow.named (Rows.OpenSpec.upto Rows.mappingAssociatesSpec).bare.vars) = true := by kernel_rfl
theorem own5 : ((Rows.mappingAssociatesUptoRow.stops == [])) = true := by kernel_rfl
theorem own6 : ((Tryz.pinned.checked.prog.stops == [])) = true := fact6
theorem own7 : ((Rows.mappingAssociatesUptoRow.knobs == [])) = true := by kernel_rfl
theorem own8 : ((Tryz.pinned.checked.prog.stopKnobs == [])) = true := fact8
theorem own9 : ((Rows.mappingAssociatesUptoRow.inPlace == Tryz.pinned.checked.prog.inPlace 6)) = true := by kernel_rfl
theorem own10 : ((Rows.mappingAssociatesUptoRow.unfollowed == Tryz.pinned.checked.prog.unfollowed 6)) = true := by kernel_rfl
theorem own11 : ((Rows.mappingAssociatesUptoRow.recurses == Tryz.pinned.checked.prog.recurses 6)) = true := by kernel_rfl
theorem own12 : ((Rows.mappingAssociatesUptoRow.named == Tryz.pinned.checked.prog.varsNamed 6)) = true := by kernel_rfl
theorem own13 : ((Rows.mappingAssociatesUptoRow.maps == (Tryz.f6.params.toList ++ (Rows.OpenSpec.upto Rows.mappingAssociatesSpec).bare.plain.varTypes Tryz.pinned.checked.prog).any (Tryz.pinned.checked.prog.mapsRec ·))) = true := by kernel_rfl
theorem own14 : ((Rows.mappingAssociatesUptoRow.ifaces == (Tryz.f6.params.toList ++ (Rows.OpenSpec.upto Rows.mappingAssociatesSpec).bare.plain.varTypes Tryz.pinned.checked.prog).any (Tryz.pinned.checked.prog.ifacesRec ·))) = true := by kernel_rfl
theorem own15 : ((Rows.mappingAssociatesUptoRow.mapsOut == Tryz.pinned.checked.prog.mapsAmong Tryz.f6.resultTypes.toList)) = true := by kernel_rfl
theorem own16 : ((Rows.mappingAssociatesUptoRow.loops == (Tryz.f6.params.toList ++ (Rows.OpenSpec.upto Rows.mappingAssociatesSpec).bare.plain.varTypes Tryz.pinned.checked.prog).any (Tryz.pinned.checked.prog.loopsFrom ·))) = true := by kernel_rfl
theorem own17 : ((Rows.mappingAssociatesUptoRow.wideKeys == (Tryz.f6.params.toList ++ (Rows.OpenSpec.upto Rows.mappingAssociatesSpec).bare.plain.varTypes Tryz.pinned.checked.prog ++ Tryz.f6.resultTypes.toList).any (Tryz.pinned.checked.prog.wideKeysFrom ·))) = true := by kernel_rfl
theorem own18 : ((Rows.OpenSpec.upto Rows.mappingAssociatesSpec).bare.vars.all (Tryz.pinned.checked.prog.varReadable ·)) = true := by kernel_rfl
theorem own19 : (Tryz.f6.resultTypes.all (fun t => Tryz.pinned.checked.prog.readableRec t && decide (t < Tryz.pinned.checked.prog.types.size))) = true := by kernel_rfl
theorem own20 : ((Rows.mappingAssociatesUptoRow.ifacesOut == Tryz.f6.resultTypes.toList.any (Tryz.pinned.checked.prog.ifacesRec ·))) = true := by kernel_rfl
theorem own21 : ((Rows.mappingAssociatesUptoRow.loopsOut == Tryz.f6.resultTypes.toList.any (Tryz.pinned.checked.prog.loopsFrom ·))) = true := by kernel_rfl
theorem own22 : ((Rows.mappingAssociatesUptoRow.plainKeys == Tryz.pinned.checked.prog.plainKeys)) = true := fact22
theorem own23 : (Rows.mappingAssociatesUptoRow.shortTexts.isNone) = true := by kernel_rfl
theorem own24 : (Tryz.pinned.checked.prog.stopsHeard) = true := fact24
theorem own25 : (Tryz.pinned.checked.prog.mayEnter) = true := fact25
theorem own26 : ((Rows.mappingAssociatesUptoRow.lifted == Tryz.pinned.checked.prog.liftsFinal)) = true := fact26
theorem own27 : ((Tryz.pinned.checked.prog.make == some Rows.mappingAssociatesUptoRow.make)) = true := fact27
theorem own28 : ((Rows.mappingAssociatesUptoRow.kinds == (if Rows.mappingAssociatesUptoRow.domain.isEmpty then [] else Tryz.f6.params.toList.map fun t => match Tryz.pinned.checked.prog.underlying t with | some (.int k) => some k | _ => none))) = true := by kernel_rfl
theorem own29 : ((Rows.mappingAssociatesUptoRow.pinned == Rows.mappingAssociatesUptoRow.pinnedBy)) = true := by kernel_rfl
theorem own30 : ((Rows.mappingAssociatesUptoRow.veiled == (Tryz.f6.params.toList ++ (Rows.OpenSpec.upto Rows.mappingAssociatesSpec).bare.plain.varTypes Tryz.pinned.checked.prog ++ Tryz.f6.resultTypes.toList).any (Tryz.pinned.checked.prog.veiledRec ·))) = true := by kernel_rfl
theorem own31 : (Rows.mappingAssociatesUptoRow.veiledFits Tryz.pinned.checked.prog Tryz.f6.params.toList (Tryz.f6.params.toList ++ (Rows.OpenSpec.upto Rows.mappingAssociatesSpec).bare.plain.varTypes Tryz.pinned.checked.prog ++ Tryz.f6.resultTypes.toList)) = true := by kernel_rfl
theorem closed : joinedFacts Tryz.pinned.checked.prog 6 Tryz.f6 (Rows.OpenSpec.upto Rows.mappingAssociatesSpec).bare Rows.mappingAssociatesUptoRow = true := (fact_and (fact_and (fact_and (fact_and (fact_and (fact_and (fact_and (fact_and (fact_and (fact_and (fact_and (fact_and (fact_and (fact_and (fact_and (fact_and (fact_and (fact_and (fact_and (fact_and (fact_and (fact_and (fact_and (fact_and (fact_and (fact_and (fact_and (fact_and (fact_and (fact_and (fact_and own0 own1) own2) own3) own4) own5) own6) own7) own8) own9) own10) own11) own12) own13) own14) own15) own16) own17) own18) own19) own20) own21) own22) own23) own24) own25) own26) own27) (by kernel_rfl)) own29) own30) own31)
theorem named : Tryz.pinned.checked.prog.funcNamed Rows.mappingAssociatesUptoRow.func = some 6 := by kernel_rfl
theorem named2 : Tryz.prog.funcNamed "stockyard/stockyardlaw07.MappingAssociates" = some 6 := by kernel_rfl
theorem inst : (Tryz.f6).isInstance Tryz.pinned.checked.prog Rows.mappingAssociatesUptoRow.origin Rows.mappingAssociatesUptoRow.targs := of_decide_eq_true (by kernel_rfl)
theorem wrap : (Tryz.f6).isWrapper Tryz.pinned.checked.prog Rows.mappingAssociatesUptoRow.wrapper Rows.mappingAssociatesUptoRow.mainSum := by unfold Func.isWrapper; first | (rw [if_pos (by decide +kernel)]; kernel_rfl) | (rw [if_neg (by decide +kernel)]; exact ⟨rfl, rfl⟩)
theorem goes : false = Rows.mappingAssociatesUptoRow.goesBy Tryz.pinned.checked.prog := by kernel_rfl
theorem said : Rows.MappingAssociatesUptoSaid :=
  OpenClaim.holds_of_cond 6 Tryz.f6 rfl rfl rfl rfl rfl rfl rfl ⟨rfl, rfl, rfl, rfl, rfl⟩ rfl rfl rfl rfl rfl named Tryz.func6 closed
    inst wrap
    (fun os started H enc _ F => by rw [OpenClaim.pre_eq_preRow]; exact lifted os started H enc F)
theorem plain (f : FuncId) (fn : Func) (hf : Tryz.pinned.checked.prog.funcNamed "stockyard/stockyardlaw07.MappingAssociates" = some f) (hfn : Tryz.pinned.checked.prog.funcs[f]? = some fn) :
    false = Tryz.pinned.checked.prog.looks [] ∧ ∀ (j : Nat) t, fn.params[j]? = some t → Tryz.pinned.checked.prog.wantsStandIn t = false := by
  obtain rfl : f = 6 := Option.some.inj ((show Tryz.prog.funcNamed "stockyard/stockyardlaw07.MappingAssociates" = some 6 from named2).symm.trans hf) |>.symm
  obtain rfl : fn = Tryz.f6 := (Option.some.inj (Tryz.func6.symm.trans hfn)).symm
  refine ⟨factLooks, fun j t ht => ?_⟩
  rw [Tryz.params6] at ht
  have hm := Array.mem_of_getElem? ht
  simp only [List.mem_toArray, List.mem_cons, List.not_mem_nil, or_false] at hm
  rcases hm with rfl | rfl | rfl | rfl
  · exact (show Tryz.prog.wantsStandIn 22 = false by kernel_rfl)
  · exact (show Tryz.prog.wantsStandIn 22 = false by kernel_rfl)
  · exact (show Tryz.prog.wantsStandIn 22 = false by kernel_rfl)
  · exact (show Tryz.prog.wantsStandIn 9 = false by kernel_rfl)
theorem card : Rows.MappingAssociatesUptoCardSaid :=
  Claim7.holds_tied_plain_at .later [] _ _ _ _ said (fun _ h => by cases h) (by kernel_rfl) (fun _ h => by cases h) mappingAssociatesUpto_row_tie rfl ⟨rfl, rfl⟩ (by kernel_rfl) rfl plain goes
end Go.Proofs.YteplgaabicminaaGreatDoor.mappingAssociatesUpto
