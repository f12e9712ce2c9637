/- The law that the view of a stream relates a path to its source answers true for every input of at most 1048576 values and letters and leaves its arguments as they were. The two listed tables hold what the library lays. -/
import Derived.Test.YtdcdabbepnahnaaGreatDoorCards
import Derived.Test.YtdcdabbepnahnaaGreatDoorTie
import Derived.WalkKit
import Derived.ProofKit
import Derived.OpenShut
import Derived.Carry
import Derived.Deep.DeepHandedRow
import Derived.Lib.LaidTab
import GoSem.PinnedTables
import Derived.Test.YtdcdabbepnahnaaGreatDoorZFactsS
import Derived.Test.YtdcdabbepnahnaaGreatDoorZLawS4
import Derived.Test.YtdcdabbepnahnaaGreatDoorZOpenStr
set_option linter.unusedVariables false
set_option linter.unusedSimpArgs false
namespace Go.Proofs.YtdcdabbepnahnaaGreatDoor.streamViewMeansUpto
open Go.ChangeShapes Go.WideShapes Go.ChangeAt Go.RowKit Sy

theorem own : ownKnob Tryz.prog.godebug = none:=by kernel_rfl
theorem laidOut : laidOutB Tryz.prog = true:=by kernel_rfl
def accZ : List Int:=[128,191,160,191,128,159,144,191,128,143,0,0,0,0,0,0,0,0,0,0,0,0,0,0,0,0,0,0,0,0,0,0]

theorem maxL {W : World} (h : W.ShapedOpen Tryz.prog) : MaxL W:=by
 obtain ⟨m,hm⟩:=Tryz.laysM146.s1_3 W h
 exact ⟨(cell_lt hm).1,m,hm⟩

set_option maxRecDepth 100000 in
theorem contract (H : Type) (enc : TypeId × Value → H) (W : World) (base : Nat) (args : Array Value) (ds gs : List (DataW H)) (before : List MemPlace)
  (hval : ∀ (j : Nat) t v,Tryz.f4.params[j]? = some t → args[j]? = some v → Value.okWide Tryz.prog W .any base t v)
  (hW : DataW.Whole enc Tryz.prog Tryz.f4.params.toList Rows.streamViewMeansSpec.vars false W args.toList ds gs before)
  (hsz : (DataW.weightsEach Tryz.prog (Tryz.f4.params.toList ++ ((OpenSpec.ofChange Rows.streamViewMeansSpec).bare.plain.varTypes Tryz.prog)) (ds ++ gs)).all (· ≤ reachBytes) = true) (hk : Rows.uptoSmall H (ds ++ gs) = true) (hL : laidMetH Tryz.prog Rows.streamViewMeansUptoRow.laid W) (hsh : W.ShapedOpen Tryz.prog) :
  Calls Tryz.prog 4 args W fun e W'=>∃ v,e = .returned v ∧ Rows.streamViewMeansSpec.post enc Tryz.prog Tryz.f4 false true false false W args v W':=by
 have hW':=hW
 obtain ⟨p,q,hA0,hV,rfl,hfz,hnd⟩:=hW
 have hA : DataW.TrodAll enc Tryz.prog W 0 (fun _=>true) true Tryz.f4.params.toList args.toList ds p:=hA0
 rw [Tryz.params4] at hA hval hsz
 obtain ⟨v0,vs0,d0,ds0,p0,q0,hargs,rfl,rfl,h0,r0⟩:=trodAll_cons hA
 obtain ⟨v1,vs1,d1,ds1,p1,q1,rfl,rfl,rfl,h1,r1⟩:=trodAll_cons r0
 obtain ⟨v2,vs2,d2,ds2,p2,q2,rfl,rfl,rfl,h2,r2⟩:=trodAll_cons r1
 obtain ⟨rfl,rfl,rfl⟩:=trodAll_nil r2
 obtain rfl : args = #[v0,v1,v2]:=by cases args;simp_all
 obtain ⟨rfl,rfl⟩:=trodVars_none hV
 clear hA0
 simp only [List.append_nil] at hW'
 have hkb : Rows.uptoBulkAll [d0,d1,d2] ≤ 1048576:=of_decide_eq_true hk
 obtain ⟨SA,ss,sc,rfl,t1,t2,t3⟩:=open_strmsL (hval 0 22 v0 rfl rfl) h0 (bulks.all_part hkb (show d0 ∈ [d0,d1,d2] by simp))
 obtain ⟨s,rfl,hsd,hs1⟩:=open_strD (hval 1 9 v1 rfl rfl) h1
 have hsb:=bulks.all_part hkb (show d1 ∈ [d0,d1,d2] by simp)
 rw [hsd,bulks.string_eq] at hsb
 have hs1 : s.length ≤ 1048576:=by omega
 obtain ⟨s2,rfl,hsd2,hs12⟩:=open_strD (hval 2 9 v2 rfl rfl) h2
 have hsb2:=bulks.all_part hkb (show d2 ∈ [d0,d1,d2] by simp)
 rw [hsd2,bulks.string_eq] at hsb2
 have hs12 : s2.length ≤ 1048576:=by omega
 have hlt0 : ∀ x ∈ p0,x.block < W.heap.size:=fun x hx=>by simpa using hW'.lt x (by simp [hx])
 have hlt1 : ∀ x ∈ p1,x.block < W.heap.size:=fun x hx=>by simpa using hW'.lt x (by simp [hx])
 have hlt2 : ∀ x ∈ p2,x.block < W.heap.size:=fun x hx=>by simpa using hW'.lt x (by simp [hx])
 refine (strViewMeans_c ss s s2 SA ss.length sc W t1 rfl hs1 hs12 (maxL hsh)).mono fun e W' ⟨he,hg⟩=>?_
 subst he
 have h0' : DataW.Trod enc Tryz.prog W' 0 (fun b=>decide (b < W.heap.size)) true 22 _ _ p0:=Below.trod laidOut (by kernel_rfl) (of_decide_eq_true (by kernel_rfl)) h0 hg hlt0
 have h1' : DataW.Trod enc Tryz.prog W' 0 (fun b=>decide (b < W.heap.size)) true 9 _ _ p1:=Below.trod laidOut (by kernel_rfl) (of_decide_eq_true (by kernel_rfl)) h1 hg hlt1
 have h2' : DataW.Trod enc Tryz.prog W' 0 (fun b=>decide (b < W.heap.size)) true 9 _ _ p2:=Below.trod laidOut (by kernel_rfl) (of_decide_eq_true (by kernel_rfl)) h2 hg hlt2
 refine ⟨_,rfl,_,_,_,[],_,[],hW',?_,trodAll_mk3 h0' h1' h2',rfl,hg.frame _,fun h=>by cases h⟩
 exact trodAll_mk1 (shut_bool Tryz.underlying4 _)

def argsW : Array Value:=#[.slice none 0 0,.string ⟨#[]⟩,.string ⟨#[]⟩]
noncomputable def laidWorld (os : Os) : World:=
 { World.holding Tryz.prog os ⟨#[],#[],[]⟩ with heap:=(((World.holding Tryz.prog os ⟨#[],#[],[]⟩).heap.modify 2 (fun
   |.cells _ t frozen=>.cells (accZ.map fun z=>Value.int .u8 z).toArray t frozen
   |o=>o)).modify 1 (fun
   |.cells _ t frozen=>.cells (Go.Pinned.utf8FirstZ.map fun z : Nat=>Value.int .u8 (z : Int)).toArray t frozen
   |o=>o)) }
theorem laid_met (os : Os) : laidMet Tryz.prog Rows.streamViewMeansUptoRow.laid ((laidWorld os).forCall (fun _ _=>0) ⟨#[],argsW,[]⟩).memory:=
 laidMet_of_run' 8 (by kernel_rfl) (by kernel_rfl)
theorem reads (os : Os) {H : Type} (enc : TypeId × Value → H) : ∃ places,DataW.whole enc Tryz.prog ((laidWorld os).forCall (fun _ _=>0) ⟨#[],argsW,[]⟩).memory Tryz.f4.params.toList Rows.streamViewMeansSpec.vars false argsW.toList 8 = some ([.nil,.lit (.string []),.lit (.string [])],[],places):=
 ⟨[],by kernel_rfl⟩

set_option maxRecDepth 100000 in
theorem lifted (os : Os) (started : os.Started) (H : Type) (enc : TypeId × Value → H) (F : Stop.Interp) :
  ReturnsInHanded {} Tryz.checked os 4 .any ((Rows.OpenSpec.upto Rows.streamViewMeansSpec).preRow enc Tryz.prog Tryz.f4 Rows.streamViewMeansUptoRow.domain false Rows.streamViewMeansUptoRow.laid) (((Rows.OpenSpec.upto Rows.streamViewMeansSpec).at F).post enc Tryz.prog Tryz.f4 false true false false):=by
 obtain ⟨places,hx⟩:=reads os enc
 refine returnsInHanded_of_row (C:=Tryz.checked) (s:=Rows.OpenSpec.upto Rows.streamViewMeansSpec) own started (by kernel_rfl) Tryz.func4
  (witness_row_at (enc:=enc) (C:=Tryz.checked) false (laidWorld os) argsW rfl (by kernel_rfl) (by kernel_rfl) (by kernel_rfl)
   (OpenSpec.preRow_of_cond 8 hx (by kernel_rfl) (fun k hk=>by cases hk;kernel_rfl) (by kernel_rfl) (laid_met os))) ?_
 intro W base args ds gs before hval hW hcnd hcond hsz hL hsh _
 exact contract H enc W base args ds gs before hval hW hsz (hcond _ rfl) hL hsh

theorem own0 : (Rows.streamViewMeansUptoRow.wf (OpenSpec.ofChange (Rows.OpenSpec.upto Rows.streamViewMeansSpec).bare)) = true:=by kernel_rfl
theorem own3 : (Tryz.f4.params.all (Tryz.pinned.checked.prog.readableRec ·)) = true:=by kernel_rfl
theorem own4 : (namedTie Tryz.pinned.checked.prog Rows.streamViewMeansUptoRow.named (Rows.OpenSpec.upto Rows.streamViewMeansSpec).bare.vars) = true:=by kernel_rfl
theorem own5 : ((Rows.streamViewMeansUptoRow.stops == [])) = true:=by kernel_rfl
theorem own7 : ((Rows.streamViewMeansUptoRow.knobs == [])) = true:=by kernel_rfl
theorem own9 : ((Rows.streamViewMeansUptoRow.inPlace == Tryz.pinned.checked.prog.inPlace 4)) = true:=by kernel_rfl
theorem own10 : ((Rows.streamViewMeansUptoRow.unfollowed == Tryz.pinned.checked.prog.unfollowed 4)) = true:=by kernel_rfl
theorem own11 : ((Rows.streamViewMeansUptoRow.recurses == Tryz.pinned.checked.prog.recurses 4)) = true:=by kernel_rfl
theorem own12 : ((Rows.streamViewMeansUptoRow.named == Tryz.pinned.checked.prog.varsNamed 4)) = true:=by kernel_rfl
theorem own13 : ((Rows.streamViewMeansUptoRow.maps == (Tryz.f4.params.toList ++ (Rows.OpenSpec.upto Rows.streamViewMeansSpec).bare.plain.varTypes Tryz.pinned.checked.prog).any (Tryz.pinned.checked.prog.mapsRec ·))) = true:=by kernel_rfl
theorem own14 : ((Rows.streamViewMeansUptoRow.ifaces == (Tryz.f4.params.toList ++ (Rows.OpenSpec.upto Rows.streamViewMeansSpec).bare.plain.varTypes Tryz.pinned.checked.prog).any (Tryz.pinned.checked.prog.ifacesRec ·))) = true:=by kernel_rfl
theorem own15 : ((Rows.streamViewMeansUptoRow.mapsOut == Tryz.pinned.checked.prog.mapsAmong Tryz.f4.resultTypes.toList)) = true:=by kernel_rfl
theorem own16 : ((Rows.streamViewMeansUptoRow.loops == (Tryz.f4.params.toList ++ (Rows.OpenSpec.upto Rows.streamViewMeansSpec).bare.plain.varTypes Tryz.pinned.checked.prog).any (Tryz.pinned.checked.prog.loopsFrom ·))) = true:=by kernel_rfl
theorem own17 : ((Rows.streamViewMeansUptoRow.wideKeys == (Tryz.f4.params.toList ++ (Rows.OpenSpec.upto Rows.streamViewMeansSpec).bare.plain.varTypes Tryz.pinned.checked.prog ++ Tryz.f4.resultTypes.toList).any (Tryz.pinned.checked.prog.wideKeysFrom ·))) = true:=by kernel_rfl
theorem own18 : ((Rows.OpenSpec.upto Rows.streamViewMeansSpec).bare.vars.all (Tryz.pinned.checked.prog.varReadable ·)) = true:=by kernel_rfl
theorem own19 : (Tryz.f4.resultTypes.all (fun t=>Tryz.pinned.checked.prog.readableRec t && decide (t < Tryz.pinned.checked.prog.types.size))) = true:=by kernel_rfl
theorem own20 : ((Rows.streamViewMeansUptoRow.ifacesOut == Tryz.f4.resultTypes.toList.any (Tryz.pinned.checked.prog.ifacesRec ·))) = true:=by kernel_rfl
theorem own21 : ((Rows.streamViewMeansUptoRow.loopsOut == Tryz.f4.resultTypes.toList.any (Tryz.pinned.checked.prog.loopsFrom ·))) = true:=by kernel_rfl
theorem own23 : (Rows.streamViewMeansUptoRow.shortTexts.isNone) = true:=by kernel_rfl
theorem own28 : ((Rows.streamViewMeansUptoRow.kinds == (if Rows.streamViewMeansUptoRow.domain.isEmpty then [] else Tryz.f4.params.toList.map fun t=>match Tryz.pinned.checked.prog.underlying t with | some (.int k)=>some k | _=>none))) = true:=by kernel_rfl
theorem own29 : ((Rows.streamViewMeansUptoRow.pinned == Rows.streamViewMeansUptoRow.pinnedBy)) = true:=by kernel_rfl
theorem own30 : ((Rows.streamViewMeansUptoRow.veiled == (Tryz.f4.params.toList ++ (Rows.OpenSpec.upto Rows.streamViewMeansSpec).bare.plain.varTypes Tryz.pinned.checked.prog ++ Tryz.f4.resultTypes.toList).any (Tryz.pinned.checked.prog.veiledRec ·))) = true:=by kernel_rfl
theorem own31 : (Rows.streamViewMeansUptoRow.veiledFits Tryz.pinned.checked.prog Tryz.f4.params.toList (Tryz.f4.params.toList ++ (Rows.OpenSpec.upto Rows.streamViewMeansSpec).bare.plain.varTypes Tryz.pinned.checked.prog ++ Tryz.f4.resultTypes.toList)) = true:=by kernel_rfl
theorem closed : joinedFacts Tryz.pinned.checked.prog 4 Tryz.f4 (Rows.OpenSpec.upto Rows.streamViewMeansSpec).bare Rows.streamViewMeansUptoRow = true:=(fact_and (fact_and (fact_and (fact_and (fact_and (fact_and (fact_and (fact_and (fact_and (fact_and (fact_and (fact_and (fact_and (fact_and (fact_and (fact_and (fact_and (fact_and (fact_and (fact_and (fact_and (fact_and (fact_and (fact_and (fact_and (fact_and (fact_and (fact_and (fact_and (fact_and (fact_and own0 fact1) fact2) own3) own4) own5) fact6) own7) fact8) own9) own10) own11) own12) own13) own14) own15) own16) own17) own18) own19) own20) own21) fact22) own23) fact24) fact25) fact26) fact27) (by kernel_rfl)) own29) own30) own31)
theorem named : Tryz.pinned.checked.prog.funcNamed Rows.streamViewMeansUptoRow.func = some 4:=by kernel_rfl
theorem named2 : Tryz.prog.funcNamed "stockyard/stockyardlaw08.StreamViewMeans" = some 4 := by kernel_rfl
theorem inst : (Tryz.f4).isInstance Tryz.pinned.checked.prog Rows.streamViewMeansUptoRow.origin Rows.streamViewMeansUptoRow.targs:=of_decide_eq_true (by kernel_rfl)
theorem wrap : (Tryz.f4).isWrapper Tryz.pinned.checked.prog Rows.streamViewMeansUptoRow.wrapper Rows.streamViewMeansUptoRow.mainSum:=by unfold Func.isWrapper;first | (rw [if_pos (by decide +kernel)];kernel_rfl) | (rw [if_neg (by decide +kernel)];exact ⟨rfl,rfl⟩)
theorem goes : false = Rows.streamViewMeansUptoRow.goesBy Tryz.pinned.checked.prog:=by kernel_rfl
theorem said : Rows.StreamViewMeansUptoSaid:=
 OpenClaim.holds_of_cond 4 Tryz.f4 rfl rfl rfl rfl rfl rfl rfl ⟨rfl,rfl,rfl,rfl,rfl⟩ rfl rfl rfl rfl rfl named Tryz.func4 closed
  inst wrap
  (fun os started H enc _ F=>by rw [OpenClaim.pre_eq_preRow];exact lifted os started H enc F)
theorem plain (f : FuncId) (fn : Func) (hf : Tryz.pinned.checked.prog.funcNamed "stockyard/stockyardlaw08.StreamViewMeans" = some f) (hfn : Tryz.pinned.checked.prog.funcs[f]? = some fn) :
  false = Tryz.pinned.checked.prog.looks [] ∧ ∀ (j : Nat) t,fn.params[j]? = some t → Tryz.pinned.checked.prog.wantsStandIn t = false:=by
 obtain rfl : f = 4 := Option.some.inj ((show Tryz.prog.funcNamed "stockyard/stockyardlaw08.StreamViewMeans" = some 4 from named2).symm.trans hf) |>.symm
 obtain rfl : fn = Tryz.f4:=(Option.some.inj (Tryz.func4.symm.trans hfn)).symm
 refine ⟨factLooks,fun j t ht=>?_⟩
 rw [Tryz.params4] at ht
 have hm:=Array.mem_of_getElem? ht
 simp only [List.mem_toArray,List.mem_cons,List.not_mem_nil,or_false] at hm
 rcases hm with rfl | rfl | rfl
 ·exact (show Tryz.prog.wantsStandIn 22 = false by kernel_rfl)
 ·exact (show Tryz.prog.wantsStandIn 9 = false by kernel_rfl)
 ·exact (show Tryz.prog.wantsStandIn 9 = false by kernel_rfl)
theorem card : Rows.StreamViewMeansUptoCardSaid:=
 Claim7.holds_tied_plain_at .later [] _ _ _ _ said (fun _ h=>by cases h) (by kernel_rfl) (fun _ h=>by cases h) streamViewMeansUpto_row_tie rfl ⟨rfl,rfl⟩ (by kernel_rfl) rfl plain goes
end Go.Proofs.YtdcdabbepnahnaaGreatDoor.streamViewMeansUpto
