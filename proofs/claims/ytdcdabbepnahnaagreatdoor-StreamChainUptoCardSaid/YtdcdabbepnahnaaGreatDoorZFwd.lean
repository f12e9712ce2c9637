/- Walks: the reference's Fill (written by program: gen_rfill.py). -/
import Derived.Test.YtdcdabbepnahnaaGreatDoorZCopyP
import Derived.Test.YtdcdabbepnahnaaGreatDoorZFwdP
set_option linter.unusedVariables false
set_option linter.unusedSimpArgs false
namespace Go.Proofs.YtdcdabbepnahnaaGreatDoor
open Go Go.RowKit Sy
theorem StrsR.grown {w w' : World} {A : Option Addr} {ls : List Str} {row : Option Nat} (h : StrsR w A ls) (hg : w.grownBy w' row) (hne : ∀ a,A = some a → row ≠ some a.block) : StrsR w' A ls:=by
 refine ⟨h.len,h.each,fun h0=>?_⟩
 obtain ⟨b,o,hA,hb,hk⟩:=h.at_ h0
 exact ⟨b,o,hA,Nat.lt_of_lt_of_le hb hg.size,fun k l hl=>hg.cell (hk k l hl) (fun e=>hne _ hA e.symm)⟩
theorem StrsG.grown {w w' : World} {A : Option Addr} {ls : List Str} {row : Option Nat} (h : StrsG w A ls) (hg : w.grownBy w' row) (hne : ∀ a,A = some a → row ≠ some a.block) : StrsG w' A ls:=by
 refine ⟨h.len,h.each,fun h0=>?_⟩
 obtain ⟨b,o,hA,hb,hk⟩:=h.at_ h0
 exact ⟨b,o,hA,Nat.lt_of_lt_of_le hb hg.size,fun k l hl=>hg.cell (hk k l hl) (fun e=>hne _ hA e.symm)⟩
end Go.Proofs.YtdcdabbepnahnaaGreatDoor
set_option linter.unusedVariables false
set_option linter.unusedSimpArgs false
namespace Go.Proofs.YtdcdabbepnahnaaGreatDoor
open Go Go.RowKit Sy

end Go.Proofs.YtdcdabbepnahnaaGreatDoor
set_option linter.unusedVariables false
set_option linter.unusedSimpArgs false
namespace Go.Proofs.YtdcdabbepnahnaaGreatDoor
open Go Go.RowKit Sy

end Go.Proofs.YtdcdabbepnahnaaGreatDoor
set_option linter.unusedVariables false
set_option linter.unusedSimpArgs false
namespace Go.Proofs.YtdcdabbepnahnaaGreatDoor
open Go Go.RowKit Sy

end Go.Proofs.YtdcdabbepnahnaaGreatDoor
