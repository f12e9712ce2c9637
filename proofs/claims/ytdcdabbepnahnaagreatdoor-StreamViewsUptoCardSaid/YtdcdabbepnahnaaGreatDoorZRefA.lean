/- Walks: the reference's Check of a pattern that is one, its Inside. -/
import Derived.Test.YtdcdabbepnahnaaGreatDoorZMeetW
import Derived.Test.YtdcdabbepnahnaaGreatDoorZInside
set_option linter.unusedVariables false
set_option linter.unusedSimpArgs false
namespace Go.Proofs.YtdcdabbepnahnaaGreatDoor
open Go Go.RowKit Sy
theorem rcheckA_c (p:Pat) (n c:Nat) (re:Bool) (A:Option Addr) (w:World) (hr:PatA w A c p) (hp:patErr p=0) (hn:p.parts.length=n) (hre:p.rest=re):Calls Tryz.prog 94 #[.agg #[.slice A n c,.bool re]] w fun e w'=>e=.returned (.int .i64 0)∧Calm w w':=by
 have:=rcheck_c p A c w hr.r hr.room hr.cap
 rw[hp,hn,hre] at this
 exact this
theorem rinside_v (x y:Str) (v:Bool) (w:World) (hx:x.length≤16384) (hy:y.length≤16384) (hxo:partOk x=true) (hyo:partOk y=true) (hv:inside x y=v) :
  Calls Tryz.prog 142 #[.string (bs x),.string (bs y)] w fun e w'=>e=.returned (.bool v)∧w=w':=hv ▸ rinside_c x y w hx hy hxo hyo
end Go.Proofs.YtdcdabbepnahnaaGreatDoor
