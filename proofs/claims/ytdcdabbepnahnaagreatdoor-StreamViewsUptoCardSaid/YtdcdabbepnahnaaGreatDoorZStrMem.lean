/- How streams and their lines lie in memory. -/
import Derived.Test.YtdcdabbepnahnaaGreatDoorZStrLaw
import Derived.Test.YtdcdabbepnahnaaGreatDoorZInside
set_option linter.unusedVariables false
set_option linter.unusedSimpArgs false
namespace Go.Proofs.YtdcdabbepnahnaaGreatDoor
open Go.RowKit Sy
structure LineAt (w:World) (b o:Nat) (a:Pl) (x:Line):Prop where
 c0:w.cell? ⟨b,o,none⟩=some (.int .i64 x.kind)
 c1:w.cell? ⟨b,o+1,none⟩=some (.slice a.AL x.path.parts.length a.cl)
 c2:w.cell? ⟨b,o+2,none⟩=some (.bool x.path.rest)
 c3:w.cell? ⟨b,o+3,none⟩=some (.slice a.AR x.frm.parts.length a.cr)
 c4:w.cell? ⟨b,o+4,none⟩=some (.bool x.frm.rest)
theorem LineAt.calm {w w':World} {b o:Nat} {a:Pl} {r:Line} (h:LineAt w b o a r) (hc:Calm w w') (hb:b < w.heap.size):LineAt w' b o a r:=
 ⟨(hc.cell (p:=⟨b,o,none⟩) hb).trans h.c0,(hc.cell (p:=⟨b,o+1,none⟩) hb).trans h.c1,(hc.cell (p:=⟨b,o+2,none⟩) hb).trans h.c2,(hc.cell (p:=⟨b,o+3,none⟩) hb).trans h.c3,(hc.cell (p:=⟨b,o+4,none⟩) hb).trans h.c4⟩
def lineV (a:Pl) (x:Line):Value:=.agg #[.int .i64 x.kind,.slice a.AL x.path.parts.length a.cl,.bool x.path.rest,.slice a.AR x.frm.parts.length a.cr,.bool x.frm.rest]
structure LinesU (w:World) (A:Option Addr) (ls:List Line):Prop where
 len:ls.length≤1048577
 at_:0 < ls.length→∃b o,A=some ⟨b,o,none⟩∧b < w.heap.size∧∀k r,ls[k]?=some r→∃a,LineAt w b (o+k * 5) a r∧RuleU w a r.rule
theorem LinesU.calm {w w':World} {A:Option Addr} {ls:List Line} (h:LinesU w A ls) (hc:Calm w w'):LinesU w' A ls:=
 ⟨h.len,fun h0=>by
  obtain⟨b,o,rfl,hb,hk⟩:=h.at_ h0
  refine⟨b,o,rfl,Nat.lt_of_lt_of_le hb hc.size,fun k r hr=>?_⟩
  obtain⟨a,h1,h2⟩:=hk k r hr
  exact⟨a,h1.calm hc hb,h2.calm hc⟩⟩
theorem LinesU.get {w:World} {A:Option Addr} {ls:List Line} (h:LinesU w A ls) {k:Nat} (hk:k < ls.length):∃b o r a,A=some ⟨b,o,none⟩∧b < w.heap.size∧ls[k]?=some r∧LineAt w b (o+k * 5) a r∧RuleU w a r.rule:=by
 obtain⟨b,o,hA,hb,hc⟩:=h.at_ (by omega)
 obtain⟨a,h1,h2⟩:=hc k _ (List.getElem?_eq_getElem hk)
 exact⟨b,o,ls[k],a,hA,hb,List.getElem?_eq_getElem hk,h1,h2⟩
structure StrmAt (w:World) (b o:Nat) (A:Option Addr) (c:Nat) (s:Strm):Prop where
 c0:w.cell? ⟨b,o,none⟩=some (.string (bs s.name))
 c1:w.cell? ⟨b,o+1,none⟩=some (.string (bs s.parent))
 c2:w.cell? ⟨b,o+2,none⟩=some (.slice A s.paths.length c)
theorem StrmAt.calm {w w':World} {b o:Nat} {A:Option Addr} {c:Nat} {s:Strm} (h:StrmAt w b o A c s) (hc:Calm w w') (hb:b < w.heap.size):StrmAt w' b o A c s:=
 ⟨(hc.cell (p:=⟨b,o,none⟩) hb).trans h.c0,(hc.cell (p:=⟨b,o+1,none⟩) hb).trans h.c1,(hc.cell (p:=⟨b,o+2,none⟩) hb).trans h.c2⟩
structure StrmU (w:World) (A:Option Addr) (c:Nat) (s:Strm):Prop where
 name:s.name.length≤1048576
 par:s.parent.length≤1048576
 lines:LinesU w A s.paths
 room:s.paths.length≤c
 cap:c≤9223372036854775807
theorem StrmU.calm {w w':World} {A:Option Addr} {c:Nat} {s:Strm} (h:StrmU w A c s) (hc:Calm w w'):StrmU w' A c s:=⟨h.name,h.par,h.lines.calm hc,h.room,h.cap⟩
structure StrmsU (w:World) (A:Option Addr) (ss:List Strm):Prop where
 len:ss.length≤1048577
 at_:0 < ss.length→∃b o,A=some ⟨b,o,none⟩∧b < w.heap.size∧∀k s,ss[k]?=some s→∃PA pc,StrmAt w b (o+k * 3) PA pc s∧StrmU w PA pc s
theorem StrmsU.calm {w w':World} {A:Option Addr} {ss:List Strm} (h:StrmsU w A ss) (hc:Calm w w'):StrmsU w' A ss:=
 ⟨h.len,fun h0=>by
  obtain⟨b,o,rfl,hb,hk⟩:=h.at_ h0
  refine⟨b,o,rfl,Nat.lt_of_lt_of_le hb hc.size,fun k r hr=>?_⟩
  obtain⟨a,c,h1,h2⟩:=hk k r hr
  exact⟨a,c,h1.calm hc hb,h2.calm hc⟩⟩
theorem StrmsU.get {w:World} {A:Option Addr} {ss:List Strm} (h:StrmsU w A ss) {k:Nat} (hk:k < ss.length):∃b o s PA pc,A=some ⟨b,o,none⟩∧b < w.heap.size∧ss[k]?=some s∧StrmAt w b (o+k * 3) PA pc s∧StrmU w PA pc s:=by
 obtain⟨b,o,hA,hb,hc⟩:=h.at_ (by omega)
 obtain⟨a,c,h1,h2⟩:=hc k _ (List.getElem?_eq_getElem hk)
 exact⟨b,o,ss[k],a,c,hA,hb,List.getElem?_eq_getElem hk,h1,h2⟩
end Go.Proofs.YtdcdabbepnahnaaGreatDoor
