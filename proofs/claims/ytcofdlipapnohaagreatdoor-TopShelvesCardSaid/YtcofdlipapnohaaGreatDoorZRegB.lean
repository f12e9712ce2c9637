/- A region's three cells in a block of its own kind. -/
import Derived.Test.YtcofdlipapnohaaGreatDoorZRSameG
import Derived.Test.YtcofdlipapnohaaGreatDoorZBindW
set_option linter.unusedVariables false
set_option linter.unusedSimpArgs false
namespace Go.Proofs.YtcofdlipapnohaaGreatDoor
open Go Go.RowKit Sy
theorem own_readsR {w0 W:World} {A:Option Addr} {n c:Nat} {l:List NewP} (h:OwnX encP 2 65 w0 W (.slice A n c) l) (he:∀x∈l,PatA W x.A x.c x.p) (hl:l.length≤16384):PatsR W A (l.map (·.p)):=by
 obtain⟨A',c',hv,_,_,hX⟩:=h.places he
 obtain⟨rfl,_,_⟩:A=A'∧n=l.length∧c=c':=by simpa using hv
 exact hX.reads hl
end Go.Proofs.YtcofdlipapnohaaGreatDoor
