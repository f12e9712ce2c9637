/- A collection of entries in a block of its own; its add. -/
import Derived.Deep.DeepCutAuto
import Derived.Deep.RegionLaw
import Derived.Test.YtdcdabbepnahnaaGreatDoorZPartAt
import Derived.Test.YtdcdabbepnahnaaGreatDoorZCheckG
import Derived.Test.YtdcdabbepnahnaaGreatDoorZMapMem
import Derived.Test.YtdcdabbepnahnaaGreatDoorZMapO
import Derived.Test.YtdcdabbepnahnaaGreatDoorZFixW
import Derived.Test.YtdcdabbepnahnaaGreatDoorZRegB
set_option linter.unusedVariables false
set_option linter.unusedSimpArgs false
namespace Go.Proofs.YtdcdabbepnahnaaGreatDoor
open Go Go.RowKit Sy
section
variable (LA RA HA:Option Addr) (nl lc nr rc hn hc:Nat) (lr rr:Bool)
end
theorem results_none {fn:Func} (h:fn.results=#[]) (tmps:Array Value) (P:Program) (w:World):(results fn tmps).run P w=.ok (.tuple #[]) w:=by
 simp only[results,h]
 simp[Sem.run_bind,Result.andThen]
theorem EntN.set {w:World} {B:Nat} {x:NewE} (h:EntN w B x) {p:Addr} (u:Value) (hp:p.block < B):EntN (w.setCell p u) B x:=⟨h.l.set u hp,h.r.set u hp,h.h.set u hp,h.few⟩
end Go.Proofs.YtdcdabbepnahnaaGreatDoor
