/- Walk: mapping.check of one mapping. -/
import Derived.Test.YthopphabeddnfaaGreatDoorZCheckW
set_option linter.unusedVariables false
set_option linter.unusedSimpArgs false
namespace Go.Proofs.YthopphabeddnfaaGreatDoor
open Go Go.RowKit Sy

set_option maxHeartbeats 4000000 in
theorem check1_c (es : List Ent) (n c g : Nat) (A : Option Addr) (er : Int) (w : World) (h : EntsA w A es) (hcn : n ≤ c) (hcc : c ≤ 9223372036854775807) (hs : ∀ x ∈ es,SmallE x) (hn : es.length = n) (hr : (mapE es).2 = er) (k0 : w.cell? ⟨g,0,none⟩ = some (.slice A n c)) (hg : g < w.heap.size) :
  Calls Tryz.prog 22 #[.slice (some ⟨g,0,none⟩) 1 1] w fun e w'=>e = .returned (.int .i64 er) ∧ Calm w w':=by
 obtain ⟨ix,hix⟩ : ∃ ix,(mapE es).1 = ix:=⟨_,rfl⟩
 have KC:=check_c es n c A w h hcn hcc hs hn
 rw [hr,hix] at KC
 have HKC:=Lib.hid KC
 clear h hs hn hr hix KC
 go_enter Tryz.func22,Tryz.ntmps22
 go_wp2_with fail
 go_loopw [9] (fun u wr=>(u = .int .i64 0 ∧ w = wr) ∨ (u = .int .i64 1 ∧ er = 0 ∧ Hid (Calm w wr))) (fun u _=>1 - (intOf u).toNat)
 case atStart=>exact .inl ⟨rfl,rfl⟩
 case round=>
  rcases hrel with ⟨rfl,rfl⟩ | ⟨rfl,rfl,HC⟩
  ·go_wp2_with fail
   refine HKC.out.mono ?_
   rintro e w2 ⟨rfl,hc2⟩
   by_cases h0 : er = 0
   ·subst h0
    go_wp2_with fail
    go_roundw
    case rel=>exact .inr ⟨by go_num,trivial,hc2⟩
    case measure=>simp [intOf]
   ·have hb : (er != 0) = true:=by simpa using h0
    go_wp2_with fail
    go_ret
    exact ⟨rfl,hc2⟩
  ·go_wp2_with fail
   go_ret
   exact ⟨rfl,HC.out⟩
end Go.Proofs.YthopphabeddnfaaGreatDoor
