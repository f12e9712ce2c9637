/- Walks: an entry's line, its left region; whether it is an entry. -/
import Derived.Deep.DeepCutAuto
import Derived.Test.YtcofdlipapnohaaGreatDoorZWalkM
import Derived.Test.YtcofdlipapnohaaGreatDoorZCheckG
import Derived.Test.YtcofdlipapnohaaGreatDoorZMapMem
import Derived.Test.YtcofdlipapnohaaGreatDoorZRuleW
import Derived.Test.YtcofdlipapnohaaGreatDoorZRSameG
import Derived.Test.YtcofdlipapnohaaGreatDoorZPcL
import Derived.Test.YtcofdlipapnohaaGreatDoorZNarW
set_option linter.unusedVariables false
set_option linter.unusedSimpArgs false
namespace Go.Proofs.YtcofdlipapnohaaGreatDoor
open Go Go.RowKit Sy
abbrev set3 (w:World) (b:Nat) (u0 u1 u2:Value):World:=((w.setCell ⟨b,0,none⟩ u0).setCell ⟨b,1,none⟩ u1).setCell ⟨b,2,none⟩ u2
theorem NewS.set3 {w:World} {B b c:Nat} {A:Option Addr} {ls:List Str} (h:NewS w B A c ls) (hb:b < B) (u0 u1 u2:Value):NewS (Go.Proofs.YtcofdlipapnohaaGreatDoor.set3 w b u0 u1 u2) B A c ls:=
 ((h.set (p:=⟨b,0,none⟩) u0 hb).set (p:=⟨b,1,none⟩) u1 hb).set (p:=⟨b,2,none⟩) u2 hb
theorem PatsN.set3 {w:World} {B b c:Nat} {A:Option Addr} {ps:List Pat} (h:PatsN w B A c ps) (hb:b < B) (u0 u1 u2:Value):PatsN (Go.Proofs.YtcofdlipapnohaaGreatDoor.set3 w b u0 u1 u2) B A c ps:=
 ((h.set (p:=⟨b,0,none⟩) u0 hb).set (p:=⟨b,1,none⟩) u1 hb).set (p:=⟨b,2,none⟩) u2 hb
section
variable (LA RA HA:Option Addr) (nl lc nr rc hn hc:Nat) (lr rr:Bool)
end
end Go.Proofs.YtcofdlipapnohaaGreatDoor
