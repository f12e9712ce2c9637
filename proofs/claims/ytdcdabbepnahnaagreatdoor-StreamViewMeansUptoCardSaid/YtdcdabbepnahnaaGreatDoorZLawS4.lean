/- The law StreamViewMeans: its walk. -/
import Derived.Deep.RegionLaw
import Derived.Test.YtdcdabbepnahnaaGreatDoorZPcsW
import Derived.Test.YtdcdabbepnahnaaGreatDoorZEntM
import Derived.Test.YtdcdabbepnahnaaGreatDoorZRegB
import Derived.Test.YtdcdabbepnahnaaGreatDoorZMapA
import Derived.Test.YtdcdabbepnahnaaGreatDoorZRowG
import Derived.Test.YtdcdabbepnahnaaGreatDoorZMapO
import Derived.Test.YtdcdabbepnahnaaGreatDoorZCopyP
import Derived.Test.YtdcdabbepnahnaaGreatDoorZMapMem
import Derived.Test.YtdcdabbepnahnaaGreatDoorZEnty
import Derived.Test.YtdcdabbepnahnaaGreatDoorZPcB
import Derived.Test.YtdcdabbepnahnaaGreatDoorZLawSrc
import Derived.Test.YtdcdabbepnahnaaGreatDoorZCheckW
import Derived.Test.YtdcdabbepnahnaaGreatDoorZFwdM
import Derived.Test.YtdcdabbepnahnaaGreatDoorZMapT
set_option linter.unusedVariables false
set_option linter.unusedSimpArgs false
namespace Go.Proofs.YtdcdabbepnahnaaGreatDoor
open Go Go.RowKit Sy

theorem stepPs_len {name : Str} {own : Reg} {x : Line} : ∀ (ups acc out : List Pc),stepPs name own x ups acc = some out → acc.length ≤ 32 → out.length ≤ 32
 |[],acc,out,h,ha=>by
  obtain rfl:=Option.some.inj h
  exact ha
 |p :: ps,acc,out,h,ha=>by
  unfold stepPs at h
  by_cases h0 : (meetR own p.region).2 ≠ 0
  ·rw [if_pos h0] at h
   cases h
  ·rw [if_neg h0] at h
   rcases hm : (meetR own p.region).1 with _ | g
   ·rw [hm] at h
    exact stepPs_len ps acc out h ha
   ·rw [hm] at h
    simp only at h
    rcases hq : narP name x p g with _ | q
    ·rw [hq] at h
     cases h
    ·rw [hq] at h
     simp only at h
     by_cases h32 : acc.length = 32
     ·rw [if_pos h32] at h
      cases h
     ·rw [if_neg h32] at h
      exact stepPs_len ps (acc ++ [q]) out h (by rw [List.length_append,List.length_singleton];omega)
theorem linesPs_len {name : Str} {up : List Pc} : ∀ (ls : List Line) (acc out : List Pc),linesPs name up ls acc = some out → acc.length ≤ 32 → out.length ≤ 32
 |[],acc,out,h,ha=>by
  obtain rfl:=Option.some.inj h
  exact ha
 |x :: r,acc,out,h,ha=>by
  unfold linesPs at h
  by_cases h4 : x.kind = 4
  ·rw [if_pos h4] at h
   exact linesPs_len r acc out h ha
  ·rw [if_neg h4] at h
   rcases hs : stepPs name (ownG x r) x up acc with _ | acc'
   ·rw [hs] at h
    cases h
   ·rw [hs] at h
    exact linesPs_len r acc' out h (stepPs_len _ _ _ hs ha)
theorem pcs_none' {ss : List Strm} (h : Sy.Good ss) {i : Nat} (hp : parentI ss i = none) : pcs ss i = wholeP (strm ss i).name (some rootPs) (strm ss i).paths:=by
 unfold pcs
 rw [h.none hp]
 rfl
theorem pcs_some' {ss : List Strm} (h : Sy.Good ss) {i p : Nat} (hp : parentI ss i = some p) : pcs ss i = wholeP (strm ss i).name (pcs ss p) (strm ss i).paths:=by
 unfold pcs
 rw [h.some hp]
 conv=>lhs;unfold pcsL
 unfold wholeP
 rcases pcsL ss (p :: above ss p) with _ | u <;> rfl
theorem wholeP_len {nm : Str} {up : Option (List Pc)} {ls : List Line} {ps : List Pc} (h : wholeP nm up ls = some ps) : ps.length ≤ 32:=by
 unfold wholeP at h
 rcases up with _ | u
 ·cases h
 ·exact linesPs_len ls [] ps h (Nat.zero_le _)
theorem pcs_len {ss : List Strm} (h : Sy.Good ss) {i : Nat} {ps : List Pc} (hp : pcs ss i = some ps) : ps.length ≤ 32:=by
 rcases hpo : parentI ss i with _ | p
 ·rw [pcs_none' h hpo] at hp
  exact wholeP_len hp
 ·rw [pcs_some' h hpo] at hp
  exact wholeP_len hp
theorem pieces_c (ss : List Strm) (F : Nat) (A : Option Addr) (n c i : Nat) (hn : ss.length = n) (hg : Sy.Good ss) (hsm : SmallSS ss) (hz : StrmsZ ss) (hi : i < n) : ∀ w,ForestAt w F A n c ss →
  Calls Tryz.prog 53 #[.pointer (some ⟨F,0,none⟩),.int .i64 i] w fun e w'=>PcsEnd (pcs ss i) e w' ∧ Calm w w':=by
 refine hg.above_ind (P:=fun i=>∀ w,ForestAt w F A n c ss → Calls Tryz.prog 53 #[.pointer (some ⟨F,0,none⟩),.int .i64 i] w fun e w'=>PcsEnd (pcs ss i) e w' ∧ Calm w w') ?_ ?_ i (by omega)
 ·intro i hi hp w hf
  obtain ⟨o1,o2,_,_,_,o6⟩:=ownErr_zero (hg.own i hi)
  rw [pcs_none' hg hp]
  exact pieces_step ss F A n c i none (some rootPs) w hf (by omega) hp (hsm.at_ hi) (hz.at_ hi) (hg.lines hi) o1 o2 (by omega) (fun _=>rfl) (fun ups h=>by
   obtain rfl:=Option.some.inj h
   exact ⟨fun p hp=>⟨root_up p hp,root_z p hp⟩,by decide⟩) (fun W p _ h=>by cases h)
 ·intro i p hi hp ih w hf
  obtain ⟨o1,o2,_,_,_,o6⟩:=ownErr_zero (hg.own i hi)
  have hpl:=parentI_lt hp
  rw [pcs_some' hg hp]
  exact pieces_step ss F A n c i (some p) (pcs ss p) w hf (by omega) hp (hsm.at_ hi) (hz.at_ hi) (hg.lines hi) o1 o2 (by omega) (fun h=>by cases h) (fun ups h=>⟨fun q hq=>⟨((pcs_mean hg p hpl ups h).ok q hq).up,(pcs_z hg hz p hpl ups h q hq).up⟩,pcs_len hg h⟩) (fun W q hW h=>by
   cases h
   exact ih W (hf.calm hW))
end Go.Proofs.YtdcdabbepnahnaaGreatDoor
set_option linter.unusedVariables false
set_option linter.unusedSimpArgs false
namespace Go.Proofs.YtdcdabbepnahnaaGreatDoor
open Go Go.RowKit Sy
theorem results_none {fn : Func} (h : fn.results = #[]) (tmps : Array Value) (P : Program) (w : World) : (results fn tmps).run P w = .ok (.tuple #[]) w:=by
 simp only [results,h]
 simp [Sem.run_bind,Result.andThen]
theorem EntN.set {w : World} {B : Nat} {x : NewE} (h : EntN w B x) {p : Addr} (u : Value) (hp : p.block < B) : EntN (w.setCell p u) B x:=⟨h.l.set u hp,h.r.set u hp,h.h.set u hp,h.few⟩
end Go.Proofs.YtdcdabbepnahnaaGreatDoor
set_option linter.unusedVariables false
set_option linter.unusedSimpArgs false
namespace Go.Proofs.YtdcdabbepnahnaaGreatDoor
open Go Go.RowKit Sy

end Go.Proofs.YtdcdabbepnahnaaGreatDoor
set_option linter.unusedVariables false
set_option linter.unusedSimpArgs false
namespace Go.Proofs.YtdcdabbepnahnaaGreatDoor
open Go Go.RowKit

end Go.Proofs.YtdcdabbepnahnaaGreatDoor
set_option linter.unusedVariables false
set_option linter.unusedSimpArgs false
namespace Go.Proofs.YtdcdabbepnahnaaGreatDoor
open Go Go.RowKit Sy

end Go.Proofs.YtdcdabbepnahnaaGreatDoor
set_option linter.unusedVariables false
set_option linter.unusedSimpArgs false
namespace Go.Proofs.YtdcdabbepnahnaaGreatDoor
open Go Go.RowKit Sy

end Go.Proofs.YtdcdabbepnahnaaGreatDoor
set_option linter.unusedVariables false
set_option linter.unusedSimpArgs false
namespace Go.Proofs.YtdcdabbepnahnaaGreatDoor
open Go Go.RowKit Sy
def EntOut (es : List Ent) (er : Int) (B : Nat) (e : Ending) (w' : World) : Prop:=∃ A c,e = .returned (.tuple #[.slice A es.length c,.int .i64 er]) ∧ es.length ≤ c ∧ c ≤ 9223372036854775807 ∧ ∃ zs : List NewE,zs.map (·.e) = es ∧ ReadX encE 5 w' A zs ∧ ∀ z ∈ zs,EntN w' B z
theorem entOut_err (er : Int) (B : Nat) (w' : World) : EntOut [] er B (.returned (.tuple #[.slice none 0 0,.int .i64 er])) w':=⟨none,0,rfl,Nat.le_refl _,by omega,[],rfl,fun h=>absurd rfl h,fun z hz=>by cases hz⟩
theorem PatsR.toU {w : World} {A : Option Addr} {ps : List Pat} (h : PatsR w A ps) : PatsU w A ps:=
 ⟨by have:=h.len;omega,fun h0=>by
  obtain ⟨b,o,hA,hb,hk⟩:=h.at_ h0
  refine ⟨b,o,hA,hb,fun k p hp=>?_⟩
  obtain ⟨Ak,ck,g1,g2,g3,g4,g5⟩:=hk k p hp
  exact ⟨Ak,ck,g1,g2,g3,g4,g5.toU⟩⟩
theorem EntN.toA {w : World} {B : Nat} {z : NewE} (h : EntN w B z) : EntA w z:=
 ⟨h.l.a.r.toU,h.r.a.r.toU,PatsR.toU (h.h.reads h.few),h.l.a.room,h.r.a.room,h.h.room,h.l.a.cap,h.r.a.cap,h.h.cap⟩
theorem entsA_of {w : World} {A : Option Addr} {es : List Ent} {zs : List NewE} {B : Nat} (h1 : zs.map (·.e) = es) (h2 : ReadX encE 5 w A zs) (h3 : ∀ z ∈ zs,EntN w B z) (hl : es.length ≤ 1048576) : EntsA w A es:=⟨hl,zs,h1,h2,fun z hz=>(h3 z hz).toA⟩
end Go.Proofs.YtdcdabbepnahnaaGreatDoor
set_option linter.unusedVariables false
set_option linter.unusedSimpArgs false
namespace Go.Proofs.YtdcdabbepnahnaaGreatDoor
open Go Go.RowKit Sy

theorem entsP_stop : ∀ {ps : List Pc} {k : Nat} {p : Pc},ps[k]? = some p → entOfP p = none → entsP ps = none
 |[],k,p,h,_=>by simp at h
 |q :: r,0,p,h,h0=>by
  obtain rfl : q = p:=by simpa using h
  unfold entsP
  rw [h0]
 |q :: r,k + 1,p,h,h0=>by
  have ih:=entsP_stop (ps:=r) (k:=k) (by simpa using h) h0
  unfold entsP
  rcases entOfP q with _ | e
  ·rfl
  ·simp only
   rw [ih]
   rfl
theorem entsP_snoc : ∀ {ps : List Pc} {p : Pc} {e : Ent} {es : List Ent},entsP ps = some es → entOfP p = some e → entsP (ps ++ [p]) = some (es ++ [e])
 |[],p,e,es,h,he=>by
  obtain rfl:=Option.some.inj h
  simp only [List.nil_append]
  unfold entsP
  rw [he]
  rfl
 |q :: r,p,e,es,h,he=>by
  rw [List.cons_append]
  unfold entsP at h ⊢
  rcases hq : entOfP q with _ | e'
  ·rw [hq] at h
   cases h
  ·rw [hq] at h
   obtain ⟨es',h1,rfl⟩:=Option.map_eq_some_iff.1 h
   simp only
   rw [entsP_snoc h1 he]
   rfl
structure EnsI (w0 wr : World) (v : Value) (ps : List Pc) (k : Nat) (zs : List NewE) : Prop where
 own : OwnX encE 5 73 w0 wr v zs
 is : entsP (ps.take k) = some (zs.map (·.e))
 each : ∀ z ∈ zs,EntN wr w0.heap.size z
theorem EnsI.nil {w0 : World} (ps : List Pc) : EnsI w0 w0 (.slice none 0 0) ps 0 []:=⟨OwnX.nil (Calm.refl _),rfl,fun z hz=>by cases hz⟩
theorem EnsI.len {w0 wr : World} {v : Value} {ps : List Pc} {k : Nat} {zs : List NewE} (h : EnsI w0 wr v ps k zs) : zs.length ≤ ps.length:=by
 have:=(entsP_at h.is).1
 rw [List.length_map,List.length_take] at this
 omega
theorem EnsI.add {w0 wr w2 w3 : World} {v v2 : Value} {ps : List Pc} {k : Nat} {zs : List NewE} {p : Pc} {y : NewE} (h : EnsI w0 wr v ps k zs) (hp : ps[k]? = some p) (he : entOfP p = some y.e) (hc : Calm wr w2) (hy : EntN w2 w0.heap.size y) (hg : w2.grownBy w3 v.ownBlock) (hown : OwnX encE 5 73 w0 w3 v2 (zs ++ [y])) : EnsI w0 w3 v2 ps (k + 1) (zs ++ [y]):=by
 refine ⟨hown,?_,fun z hz=>?_⟩
 ·rw [take_snoc hp,entsP_snoc h.is he,List.map_append]
  rfl
 ·rcases List.mem_append.1 hz with hz | hz
  ·exact ((h.each z hz).calm hc).own (by decide) (by decide) (h.own.to hc).own hg
  ·rw [List.mem_singleton] at hz
   subst hz
   exact hy.own (by decide) (by decide) (h.own.to hc).own hg
def ViewEnd (x : Option (List Pc)) (B : Nat) (e : Ending) (w' : World) : Prop:=
 ((x = none ∨ ∃ ps,x = some ps ∧ entsP ps = none) ∧ e = .returned (.tuple #[.slice none 0 0,.slice none 0 0,.int .i64 80])) ∨
 (∃ ps A c zs A' c',x = some ps ∧ entsP ps = some (zs.map (·.e)) ∧ e = .returned (.tuple #[.slice A ps.length c,.slice A' zs.length c',.int .i64 0]) ∧ PcsR w' A ps ∧ ps.length ≤ c ∧ c ≤ 9223372036854775807 ∧ ReadX encE 5 w' A' zs ∧ (∀ z ∈ zs,EntN w' B z) ∧ zs.length ≤ c' ∧ c' ≤ 9223372036854775807)

set_option maxRecDepth 100000 in
set_option maxHeartbeats 16000000 in
theorem view_c (ss : List Strm) (F : Nat) (A : Option Addr) (n c i : Nat) (w : World) (hf : ForestAt w F A n c ss) (hg : Sy.Good ss) (hsm : SmallSS ss) (hz : StrmsZ ss) (hi : i < n) :
  Calls Tryz.prog 23 #[.pointer (some ⟨F,0,none⟩),.int .i64 i] w fun e w'=>ViewEnd (pcs ss i) w.heap.size e w' ∧ Calm w w':=by
 have KP:=pieces_c ss F A n c i hf.hn hg hsm hz hi w hf
 have hok : ∀ ps,pcs ss i = some ps → ps.length ≤ 32 ∧ ∀ p ∈ ps,PcOk p ∧ PcZ p:=fun ps h=>⟨pcs_len hg h,fun p hp=>⟨(pcs_mean hg i (by rw [hf.hn];exact hi) ps h).ok p hp,pcs_z hg hz i (by rw [hf.hn];exact hi) ps h p hp⟩⟩
 obtain ⟨po,hpo⟩ : ∃ po,pcs ss i = po:=⟨_,rfl⟩
 rw [hpo] at KP hok ⊢
 have HOk:=Lib.hid hok
 clear hpo hok hf hg hsm hz hi
 go_enter Tryz.func23,Tryz.ntmps23
 go_wp2_with fail
 refine KP.mono ?_
 rintro e w2 ⟨hE,hc2⟩
 have HC2:=Lib.hid hc2
 clear hc2 KP
 rcases hE with ⟨hx,rfl⟩ | ⟨ps,PA,pc,hx,rfl,hR,hr1,hr2⟩
 ·have HX : Hid (po = none):=hx
  clear hx
  go_wp2_with fail
  refine bodyPost_ret (results_tmp3 rfl _ _ _) rfl ?_
  exact ⟨.inl ⟨.inl HX.out,rfl⟩,HC2.out⟩
 ·have HX : Hid (po = some ps):=hx
  obtain ⟨np,hnp⟩ : ∃ np,ps.length = np:=⟨_,rfl⟩
  rw [hnp] at hr1 ⊢
  have HNp:=Lib.hid hnp
  have h32 : np ≤ 32:=by
   rw [← hnp]
   exact (HOk.out ps hx).1
  have HPs:=Lib.hid (HOk.out ps hx).2
  have HR:=Lib.hid hR
  clear hx hnp hR
  go_wp2_with fail
  go_loopw [9,25] (fun v u wr=>∃ (k : Nat) (zs : List NewE),k ≤ np ∧ u = .int .i64 k ∧ Hid (EnsI w2 wr v ps k zs)) (fun _ u _=>np - (intOf u).toNat)
  case atStart=>exact ⟨0,[],Nat.zero_le _,rfl,EnsI.nil ps⟩
  case round=>
   obtain ⟨k,zs,hk,rfl,HI⟩:=hrel
   obtain ⟨wz,rfl⟩ : ∃ wz,wz = wr:=⟨_,rfl⟩
   by_cases hlt : k < np
   ·obtain ⟨bu,ou,z,rfl,hbu,hzm,hz9,hza⟩:=HR.out.get (k:=k) (by rw [HNp.out];exact hlt)
    obtain ⟨gb,hgb⟩ : ∃ gb,z.p.region.b.parts.length = gb:=⟨_,rfl⟩
    obtain ⟨gr,hgr⟩ : ∃ gr,z.p.region.b.rest = gr:=⟨_,rfl⟩
    obtain ⟨gk,hgk⟩ : ∃ gk,z.p.region.hs.length = gk:=⟨_,rfl⟩
    obtain ⟨pk,hpk⟩ : ∃ pk,z.p.kind = pk:=⟨_,rfl⟩
    obtain ⟨ex,hex⟩ : ∃ ex,z.p.line.excl = ex:=⟨_,rfl⟩
    obtain ⟨il,hil⟩ : ∃ il,z.p.line.left.parts.length = il:=⟨_,rfl⟩
    obtain ⟨lr,hlr⟩ : ∃ lr,z.p.line.left.rest = lr:=⟨_,rfl⟩
    obtain ⟨ir,hir⟩ : ∃ ir,z.p.line.right.parts.length = ir:=⟨_,rfl⟩
    obtain ⟨rr,hrr⟩ : ∃ rr,z.p.line.right.rest = rr:=⟨_,rfl⟩
    have cw:=HI.out.own.calm
    have x0:=Calm.at_ cw hz9.c0 hbu
    have x1:=Calm.at_ cw hz9.c1 hbu
    have x2:=Calm.at_ cw hz9.c2 hbu
    have x3:=Calm.at_ cw hz9.c3 hbu
    have x4:=Calm.at_ cw hz9.c4 hbu
    have x5:=Calm.at_ cw hz9.c5 hbu
    have x6:=Calm.at_ cw hz9.c6 hbu
    have x7:=Calm.at_ cw hz9.c7 hbu
    have x8:=Calm.at_ cw hz9.c8 hbu
    rw [hgb] at x0
    rw [hgr] at x1
    rw [hgk] at x2
    rw [hpk] at x3
    rw [hex] at x4
    rw [hil] at x5
    rw [hlr] at x6
    rw [hir] at x7
    rw [hrr] at x8
    have hbu:=Nat.lt_of_lt_of_le hbu cw.size
    have HZm:=Lib.hid hzm
    have hpo:=HPs.out z.p (List.mem_of_getElem? hzm)
    have HCa : Hid (Calm wz (wz.alloc (.cells #[.slice z.A gb z.c,.bool gr,.slice z.HA gk z.hc,.int .i64 pk,.bool ex,.slice z.a.AL il z.a.cl,.bool lr,.slice z.a.AR ir z.a.cr,.bool rr] 95))):=(Calm.refl _).alloc _
    have HEn:=Lib.hid (entry_c z gb gk il ir gr ex lr rr pk _ (hza.calm (cw.trans HCa.out)) hpo.1 hpo.2 hgk ⟨hil,hir,hlr,hrr,hex⟩)
    have HS5 : Hid (w2.heap.size ≤ (wz.alloc (.cells #[.slice z.A gb z.c,.bool gr,.slice z.HA gk z.hc,.int .i64 pk,.bool ex,.slice z.a.AL il z.a.cl,.bool lr,.slice z.a.AR ir z.a.cr,.bool rr] 95)).heap.size):=(cw.trans HCa.out).size
    clear cw hz9 hza hzm hpo hgb hgr hgk hpk hex hil hlr hir hrr
    go_wp2_with fail
    refine HEn.out.mono ?_
    rintro e w5 ⟨hE,hc5⟩
    have HC5 : Hid (Calm wz w5):=HCa.out.trans hc5
    clear hc5 x0 x1 x2 x3 x4 x5 x6 x7 x8 HEn
    rcases hE with ⟨hx,rfl⟩ | ⟨y,hx,rfl,hN⟩
    ·have HNo : Hid (entsP ps = none):=entsP_stop HZm.out hx
     have HCe : Hid (Calm w w5):=HC2.out.trans (HI.out.own.calm.trans HC5.out)
     clear hx
     go_wp2_with fail
     refine bodyPost_ret (results_tmp3 rfl _ _ _) rfl ?_
     exact ⟨.inl ⟨.inr ⟨ps,HX.out,HNo.out⟩,rfl⟩,HCe.out.alloc _⟩
    ·obtain ⟨q1,hq1⟩ : ∃ q1,y.e.left.parts.length = q1:=⟨_,rfl⟩
     obtain ⟨q2,hq2⟩ : ∃ q2,y.e.left.rest = q2:=⟨_,rfl⟩
     obtain ⟨q3,hq3⟩ : ∃ q3,y.e.right.parts.length = q3:=⟨_,rfl⟩
     obtain ⟨q4,hq4⟩ : ∃ q4,y.e.right.rest = q4:=⟨_,rfl⟩
     obtain ⟨q5,hq5⟩ : ∃ q5,y.e.hs.length = q5:=⟨_,rfl⟩
     have hen : (encE y).toArray = #[.slice y.LA q1 y.lc,.bool q2,.slice y.RA q3 y.rc,.bool q4,.slice y.HA q5 y.hc]:=by
      unfold encE
      rw [hq1,hq2,hq3,hq4,hq5]
     rw [hen]
     have HEp : Hid (entOfP z.p = some y.e):=hx
     have HN : Hid (EntN w5 w2.heap.size y):=hN.mono HS5.out
     have HQ:=Lib.hid (And.intro hq1 (And.intro hq2 (And.intro hq3 (And.intro hq4 hq5))))
     have hzl:=HI.out.len
     rw [HNp.out] at hzl
     clear hx hN hen hq1 hq2 hq3 hq4 hq5
     go_upto_region 11 with (fail)
     go_wp2_with (at_builtin;refine wpList_append_xs (enc:=encE) (K:=5) (T:=73) Tryz.underlying25 info_ent rfl (by decide) (by decide) encE_len encE_one rfl (.tmp 37) (.tmp 39) rfl w2 _ zs [y] rfl (HI.out.own.to (HC5.out.trans (((Calm.refl _).alloc _).alloc _))) _ 1 1 rfl rfl (read_newE y (by simp) HQ.out.1 HQ.out.2.1 HQ.out.2.2.1 HQ.out.2.2.2.1 HQ.out.2.2.2.2) (by omega) ?_;intro v7 w7 hown7 hg7)
     have HRel:=Lib.hid (HI.out.add (y:=y) HZm.out HEp.out (HC5.out.trans (((Calm.refl _).alloc _).alloc _)) (HN.out.calm (((Calm.refl _).alloc _).alloc _)) hg7 hown7)
     go_roundw
     case rel=>exact ⟨k + 1,zs ++ [y],by omega,by go_num,HRel⟩
     case measure=>simp [intOf];omega
   ·obtain rfl : k = np:=by omega
    have hes : entsP ps = some (zs.map (·.e)):=by
     have:=HI.out.is
     rw [List.take_of_length_le (by rw [HNp.out];exact Nat.le_refl _)] at this
     exact this
    obtain ⟨A',c',hv,h1,h2,h3⟩ : ∃ A' c',u9 = .slice A' zs.length c' ∧ zs.length ≤ c' ∧ c' ≤ 9223372036854775807 ∧ ReadX encE 5 wz A' zs:=by
     rcases HI.out.own.row encE_len with ⟨rfl,h0⟩ | ⟨g,c,rfl,h1,h2,_,hr⟩
     ·subst h0
      exact ⟨none,0,rfl,Nat.le_refl _,by omega,fun h=>absurd rfl h⟩
     ·exact ⟨_,c,rfl,h1,h2,fun _=>⟨g,0,rfl,hr.lt,fun k x hk i u hu=>hr.cell k x hk i u hu⟩⟩
    obtain ⟨Z,hZ⟩ : ∃ Z,zs.length = Z:=⟨_,rfl⟩
    rw [hZ] at hv
    subst hv
    have HCe : Hid (Calm w2 wz):=HI.out.own.calm
    have HFin : Hid (ViewEnd po w.heap.size (.returned (.tuple #[.slice PA k pc,.slice A' Z c',.int .i64 0])) wz):=.inr ⟨ps,PA,pc,zs,A',c',HX.out,hes,by rw [HNp.out,hZ],HR.out.calm HCe.out,by rw [HNp.out];exact hr1,hr2,h3,fun z hz=>(HI.out.each z hz).mono HC2.out.size,h1,h2⟩
    clear hes h1 h2 h3 hZ
    go_wp2_with fail
    refine bodyPost_ret (results_tmp3 rfl _ _ _) rfl ?_
    exact ⟨HFin.out,HC2.out.trans HCe.out⟩
def viewR (ss : List Strm) (nm : Str) : List Ent × Int:=if readyE ss nm ≠ 0 then ([],readyE ss nm) else match viewI ss ((findI ss nm).getD 0) with
 |none=>([],80)
 |some es=>(es,0)
theorem viewR_bad {ss : List Strm} {nm : Str} (h : readyE ss nm ≠ 0) : viewR ss nm = ([],readyE ss nm):=by unfold viewR;rw [if_pos h]
theorem viewR_none {ss : List Strm} {nm : Str} {i : Nat} (h : readyE ss nm = 0) (hi : findI ss nm = some i) (hv : viewI ss i = none) : viewR ss nm = ([],80):=by
 unfold viewR
 rw [if_neg (by simpa using h),hi]
 simp [hv]
theorem viewR_some {ss : List Strm} {nm : Str} {i : Nat} {es : List Ent} (h : readyE ss nm = 0) (hi : findI ss nm = some i) (hv : viewI ss i = some es) : viewR ss nm = (es,0):=by
 unfold viewR
 rw [if_neg (by simpa using h),hi]
 simp [hv]

set_option maxHeartbeats 8000000 in
theorem View_c (ss : List Strm) (nm : Str) (A : Option Addr) (n c : Nat) (w : World) (hs : StrmsU w A ss) (hn : ss.length = n) (hnm : nm.length ≤ 1048576) (hsm : SmallSS ss) (hz : StrmsZ ss) :
  Calls Tryz.prog 9 #[.slice A n c,.string (bs nm)] w fun e w'=>EntOut (viewR ss nm).1 (viewR ss nm).2 w.heap.size e w' ∧ Calm w w':=by
 have hk:=find_c ss nm A n c w hs hn hnm
 have HN:=Lib.hid hn
 have HSm:=Lib.hid hsm
 have HZ:=Lib.hid hz
 clear hs hn hsm hz
 go_enter Tryz.func9,Tryz.ntmps9
 go_wp2_with fail
 refine hk.mono ?_
 rintro e w1 ⟨hend,hc1⟩
 rcases hend with ⟨x,hx0,hr,rfl⟩ | ⟨F,i,hr,hg,hfi,rfl,hf⟩
 ·have hxb : (x != 0) = true:=by simpa using hx0
  have hE : Hid (viewR ss nm = ([],x)):=by
   show _ = _
   rw [viewR_bad (by rw [hr];exact hx0),hr]
  clear hx0 hr hk
  go_wp2_with fail
  go_ret2
  exact ⟨by rw [hE.out];exact entOut_err x _ _,hc1⟩
 ·have hil : i < n:=by rw [← HN.out];exact findI_lt hfi
  have KV:=Lib.hid (view_c ss F A n c i w1 hf hg HSm.out HZ.out hil)
  have HR:=Lib.hid (And.intro hr hfi)
  have HC1:=Lib.hid hc1
  clear hr hfi hf hg hk hc1
  go_wp2_with fail
  refine KV.out.mono ?_
  rintro e w2 ⟨hE,hc2⟩
  have HC2:=Lib.hid hc2
  clear hc2 KV
  rcases hE with ⟨hx,rfl⟩ | ⟨ps,PA,pc,zs,A',c',hx,hes,rfl,hR,hr1,hr2,h3,h4,h5,h6⟩
  ·have hE : Hid (viewR ss nm = ([],80)):=viewR_none HR.out.1 HR.out.2 (by
    unfold viewI
    rcases hx with hx | ⟨ps,hx,h⟩
    ·rw [hx]
    ·rw [hx]
     exact h)
   clear hx
   go_wp2_with fail
   go_ret2
   exact ⟨by rw [hE.out];exact entOut_err 80 _ _,HC1.out.trans HC2.out⟩
  ·have hE : Hid (viewR ss nm = (zs.map (·.e),0)):=viewR_some HR.out.1 HR.out.2 (by
    unfold viewI
    rw [hx]
    exact hes)
   have HO : Hid (EntOut (zs.map (·.e)) 0 w.heap.size (.returned (.tuple #[.slice A' zs.length c',.int .i64 0])) w2):=⟨A',c',by rw [List.length_map],by rw [List.length_map];exact h5,h6,zs,rfl,h3,fun z hz=>(h4 z hz).mono HC1.out.size⟩
   obtain ⟨Z,hZ⟩ : ∃ Z,zs.length = Z:=⟨_,rfl⟩
   obtain ⟨N,hN⟩ : ∃ N,ps.length = N:=⟨_,rfl⟩
   rw [hZ] at HO
   rw [hZ,hN]
   clear hx hes hR hr1 hr2 h3 h4 h5 h6 hZ hN
   go_wp2_with fail
   go_ret2
   exact ⟨by rw [hE.out];exact HO.out,HC1.out.trans HC2.out⟩
end Go.Proofs.YtdcdabbepnahnaaGreatDoor
set_option linter.unusedVariables false
set_option linter.unusedSimpArgs false
namespace Go.Proofs.YtdcdabbepnahnaaGreatDoor
open Go Go.RowKit Sy

theorem betP_none {par : Str} : ∀ {ps : List Pc},entsP ps = none → betP par ps = none
 |[],h=>by cases h
 |p :: r,h=>by
  unfold entsP at h
  unfold betP
  rcases he : entOfP p with _ | e
  ·rfl
  ·rw [he] at h
   simp only at h ⊢
   rw [betP_none (by simpa using h)]
   rfl
theorem betP_snoc {par : Str} : ∀ {ps : List Pc} {p : Pc} {e : Ent} {es : List Ent},betP par ps = some es → entOfP p = some e → betP par (ps ++ [p]) = some (es ++ if p.kind = 1 then [⟨e.left,storedP p.region.b par,e.hs⟩] else [])
 |[],p,e,es,h,he=>by
  obtain rfl:=Option.some.inj h
  simp only [List.nil_append]
  unfold betP
  rw [he]
  simp only [betP,Option.map_some]
 |q :: r,p,e,es,h,he=>by
  rw [List.cons_append]
  unfold betP at h ⊢
  rcases hq : entOfP q with _ | e'
  ·rw [hq] at h
   cases h
  ·rw [hq] at h
   obtain ⟨es',h1,rfl⟩:=Option.map_eq_some_iff.1 h
   simp only
   rw [betP_snoc h1 he,Option.map_some]
   by_cases hk : q.kind = 1
   ·rw [if_pos hk,if_pos hk]
    rfl
   ·rw [if_neg hk,if_neg hk]
structure BtI (B : Nat) (w0 wr : World) (v : Value) (par : Str) (ps : List Pc) (k : Nat) (zs : List NewE) : Prop where
 own : OwnX encE 5 73 w0 wr v zs
 is : betP par (ps.take k) = some (zs.map (·.e))
 each : ∀ z ∈ zs,EntN wr B z
 few : zs.length ≤ k
theorem BtI.nil {B : Nat} {w0 : World} (par : Str) (ps : List Pc) : BtI B w0 w0 (.slice none 0 0) par ps 0 []:=⟨OwnX.nil (Calm.refl _),rfl,(fun z hz=>by cases hz),Nat.le_refl _⟩
theorem BtI.skip {B : Nat} {w0 wr w2 : World} {v : Value} {par : Str} {ps : List Pc} {k : Nat} {zs : List NewE} {p : Pc} {e : Ent} (h : BtI B w0 wr v par ps k zs) (hp : ps[k]? = some p) (he : entOfP p = some e) (hk : p.kind ≠ 1) (hc : Calm wr w2) : BtI B w0 w2 v par ps (k + 1) zs:=by
 refine ⟨h.own.to hc,?_,fun z hz=>(h.each z hz).calm hc,Nat.le_succ_of_le h.few⟩
 rw [take_snoc hp,betP_snoc h.is he,if_neg hk,List.append_nil]
theorem BtI.add {B : Nat} {w0 wr w2 w3 : World} {v v2 : Value} {par : Str} {ps : List Pc} {k : Nat} {zs : List NewE} {p : Pc} {e : Ent} {y : NewE} (h : BtI B w0 wr v par ps k zs) (hp : ps[k]? = some p) (he : entOfP p = some e) (hk : p.kind = 1) (hye : y.e = ⟨e.left,storedP p.region.b par,e.hs⟩) (hc : Calm wr w2) (hy : EntN w2 B y) (hg : w2.grownBy w3 v.ownBlock) (hown : OwnX encE 5 73 w0 w3 v2 (zs ++ [y])) : BtI B w0 w3 v2 par ps (k + 1) (zs ++ [y]):=by
 refine ⟨hown,?_,fun z hz=>?_,by rw [List.length_append,List.length_singleton];have:=h.few;omega⟩
 ·rw [take_snoc hp,betP_snoc h.is he,if_pos hk,List.map_append,List.map_singleton,hye]
 ·rcases List.mem_append.1 hz with hz | hz
  ·exact ((h.each z hz).calm hc).own (by decide) (by decide) (h.own.to hc).own hg
  ·rw [List.mem_singleton] at hz
   subst hz
   exact hy.own (by decide) (by decide) (h.own.to hc).own hg
def betR (ss : List Strm) (nm : Str) : List Ent × Int:=if readyE ss nm ≠ 0 then ([],readyE ss nm) else if (strm ss ((findI ss nm).getD 0)).parent = [] then ([],87) else match betI ss ((findI ss nm).getD 0) with
 |none=>([],80)
 |some es=>(es,0)
theorem betR_bad {ss : List Strm} {nm : Str} (h : readyE ss nm ≠ 0) : betR ss nm = ([],readyE ss nm):=by unfold betR;rw [if_pos h]
theorem betR_main {ss : List Strm} {nm : Str} {i : Nat} (h : readyE ss nm = 0) (hi : findI ss nm = some i) (hp : (strm ss i).parent = []) : betR ss nm = ([],87):=by
 unfold betR
 rw [if_neg (by simpa using h),hi,Option.getD_some,if_pos hp]
theorem betR_none {ss : List Strm} {nm : Str} {i : Nat} (h : readyE ss nm = 0) (hi : findI ss nm = some i) (hp : (strm ss i).parent ≠ []) (hv : betI ss i = none) : betR ss nm = ([],80):=by
 unfold betR
 rw [if_neg (by simpa using h),hi,Option.getD_some,if_neg hp,hv]
theorem betR_some {ss : List Strm} {nm : Str} {i : Nat} {es : List Ent} (h : readyE ss nm = 0) (hi : findI ss nm = some i) (hp : (strm ss i).parent ≠ []) (hv : betI ss i = some es) : betR ss nm = (es,0):=by
 unfold betR
 rw [if_neg (by simpa using h),hi,Option.getD_some,if_neg hp,hv]
theorem parent_len {ss : List Strm} (h : Sy.Good ss) {i : Nat} (hi : i < ss.length) : (strm ss i).parent.length ≤ 24:=by
 rcases hp : parentI ss i with _ | p
 ·rw [h.parent hi hp]
  decide
 ·rw [← parent_name hp]
  exact (ownErr_zero (h.own p (parentI_lt hp))).2.1

set_option maxRecDepth 100000 in
set_option maxHeartbeats 16000000 in
theorem Between_c (ss : List Strm) (nm : Str) (A : Option Addr) (n c : Nat) (w : World) (hs : StrmsU w A ss) (hn : ss.length = n) (hnm : nm.length ≤ 1048576) (hsm : SmallSS ss) (hz : StrmsZ ss) :
  Calls Tryz.prog 17 #[.slice A n c,.string (bs nm)] w fun e w'=>EntOut (betR ss nm).1 (betR ss nm).2 w.heap.size e w' ∧ Calm w w':=by
 have hlen:=hs.len
 rw [hn] at hlen
 have hk:=find_c ss nm A n c w hs hn hnm
 have HN:=Lib.hid hn
 have HSm:=Lib.hid hsm
 have HZ:=Lib.hid hz
 clear hs hn hsm hz
 go_enter Tryz.func17,Tryz.ntmps17
 go_wp2_with fail
 refine hk.mono ?_
 rintro e w1 ⟨hend,hc1⟩
 rcases hend with ⟨x,hx0,hr,rfl⟩ | ⟨F,i,hr,hg,hfi,rfl,hf⟩
 ·have hxb : (x != 0) = true:=by simpa using hx0
  have hE : Hid (betR ss nm = ([],x)):=by
   show _ = _
   rw [betR_bad (by rw [hr];exact hx0),hr]
  clear hx0 hr hk
  go_wp2_with fail
  go_ret2
  exact ⟨by rw [hE.out];exact entOut_err x _ _,hc1⟩
 ·have hil : i < n:=by rw [← HN.out];exact findI_lt hfi
  have KV:=Lib.hid (view_c ss F A n c i w1 hf hg HSm.out HZ.out hil)
  obtain ⟨b,o,s,PA,pc,rfl,hb,hri,hat,hsu⟩:=hf.strms.get (k:=i) (by rw [HN.out];exact hil)
  have f0:=hf.c0
  have fl:=hf.lt
  have c1:=hat.c1
  have hst:=strm_at hri
  obtain ⟨pa,hpa⟩ : ∃ pa,s.parent = pa:=⟨_,rfl⟩
  rw [hpa] at c1
  have hpa2 : (strm ss i).parent = pa:=by rw [hst,hpa]
  have hpl : pa.length ≤ 24:=by
   rw [← hpa2]
   exact parent_len hg (by rw [HN.out];exact hil)
  have HOk : Hid (∀ ps,pcs ss i = some ps → ps.length ≤ 32 ∧ ∀ p ∈ ps,PcOk p ∧ PcZ p):=fun ps h=>⟨pcs_len hg h,fun p hp=>⟨(pcs_mean hg i (by rw [HN.out];exact hil) ps h).ok p hp,pcs_z hg HZ.out i (by rw [HN.out];exact hil) ps h p hp⟩⟩
  have HR:=Lib.hid (And.intro hr (And.intro hfi hpa2))
  have HC1:=Lib.hid hc1
  clear hr hfi hf hg hk hc1 hat hsu hst hri hpa hpa2
  cases pa with
  |nil=>
   have e0 : bs [] = ⟨#[]⟩:=rfl
   rw [e0] at c1
   have hE : Hid (betR ss nm = ([],87)):=betR_main HR.out.1 HR.out.2.1 HR.out.2.2
   go_wp2_with fail
   go_ret2
   exact ⟨by rw [hE.out];exact entOut_err 87 _ _,HC1.out⟩
  |cons x t=>
   have hne : (x :: t).isEmpty = false:=rfl
   obtain ⟨pa,hpa⟩ : ∃ pa,x :: t = pa:=⟨_,rfl⟩
   have hp0 : pa ≠ []:=by rw [← hpa];simp
   rw [hpa] at c1 hpl hne HR
   have HP0:=Lib.hid hp0
   clear hpa hp0
   go_wp2_with fail
   refine KV.out.mono ?_
   rintro e w2 ⟨hE,hc2⟩
   have HC2:=Lib.hid hc2
   clear hc2 KV f0 fl c1 hb
   rcases hE with ⟨hx,rfl⟩ | ⟨ps,PA,pc,zs,A',c',hx,hes,rfl,hR,hr1,hr2,h3,h4,h5,h6⟩
   ·have hE : Hid (betR ss nm = ([],80)):=betR_none HR.out.1 HR.out.2.1 (by rw [HR.out.2.2];exact HP0.out) (by
     unfold betI
     rcases hx with hx | ⟨ps,hx,h⟩
     ·rw [hx]
     ·rw [hx]
      exact betP_none h)
    clear hx
    go_wp2_with fail
    go_ret2
    exact ⟨by rw [hE.out];exact entOut_err 80 _ _,HC1.out.trans HC2.out⟩
   ·obtain ⟨np,hnp⟩ : ∃ np,ps.length = np:=⟨_,rfl⟩
    have hzl : zs.length = np:=by
     have:=(entsP_at hes).1
     rw [List.length_map,hnp] at this
     exact this
    rw [hnp] at hr1 ⊢
    rw [hzl] at h5 ⊢
    have h32 : np ≤ 32:=by
     rw [← hnp]
     exact (HOk.out ps hx).1
    have HNp:=Lib.hid (And.intro hnp hzl)
    have HPs:=Lib.hid (HOk.out ps hx).2
    have HRd:=Lib.hid hR
    have HEs : Hid (∀ (k : Nat) p y,ps[k]? = some p → zs[k]? = some y → entOfP p = some y.e):=fun k p y hp hy=>by
     obtain ⟨e,he,h⟩:=(entsP_at hes).2 k p hp
     rw [List.getElem?_map,hy] at he
     obtain rfl : y.e = e:=by simpa using he
     exact h
    have HEz:=Lib.hid (And.intro h3 h4)
    have HX : Hid (pcs ss i = some ps):=hx
    have HP16 : pa.length ≤ 16384:=by omega
    clear hx hes hR h3 h4 hnp hzl
    go_wp2_with fail
    go_loopw [12,48] (fun v u wr=>∃ (k : Nat) (ys : List NewE),k ≤ np ∧ u = .int .i64 k ∧ Hid (BtI w1.heap.size w2 wr v pa ps k ys)) (fun _ u _=>np - (intOf u).toNat)
    case atStart=>exact ⟨0,[],Nat.zero_le _,rfl,BtI.nil pa ps⟩
    case round=>
     obtain ⟨k,ys,hk,rfl,HI⟩:=hrel
     obtain ⟨wz,rfl⟩ : ∃ wz,wz = wr:=⟨_,rfl⟩
     by_cases hlt : k < np
     ·obtain ⟨bu,ou,z,rfl,hbu,hzm,hz9,hza⟩:=HRd.out.get (k:=k) (by rw [HNp.out.1];exact hlt)
      obtain ⟨gb,hgb⟩ : ∃ gb,z.p.region.b.parts.length = gb:=⟨_,rfl⟩
      obtain ⟨gr,hgr⟩ : ∃ gr,z.p.region.b.rest = gr:=⟨_,rfl⟩
      obtain ⟨gk,hgk⟩ : ∃ gk,z.p.region.hs.length = gk:=⟨_,rfl⟩
      obtain ⟨pk,hpk⟩ : ∃ pk,z.p.kind = pk:=⟨_,rfl⟩
      obtain ⟨ex,hex⟩ : ∃ ex,z.p.line.excl = ex:=⟨_,rfl⟩
      obtain ⟨il,hil⟩ : ∃ il,z.p.line.left.parts.length = il:=⟨_,rfl⟩
      obtain ⟨lr,hlr⟩ : ∃ lr,z.p.line.left.rest = lr:=⟨_,rfl⟩
      obtain ⟨ir,hir⟩ : ∃ ir,z.p.line.right.parts.length = ir:=⟨_,rfl⟩
      obtain ⟨rr,hrr⟩ : ∃ rr,z.p.line.right.rest = rr:=⟨_,rfl⟩
      have cw:=HI.out.own.calm
      have x0:=Calm.at_ cw hz9.c0 hbu
      have x1:=Calm.at_ cw hz9.c1 hbu
      have x2:=Calm.at_ cw hz9.c2 hbu
      have x3:=Calm.at_ cw hz9.c3 hbu
      have x4:=Calm.at_ cw hz9.c4 hbu
      have x5:=Calm.at_ cw hz9.c5 hbu
      have x6:=Calm.at_ cw hz9.c6 hbu
      have x7:=Calm.at_ cw hz9.c7 hbu
      have x8:=Calm.at_ cw hz9.c8 hbu
      rw [hgb] at x0
      rw [hgr] at x1
      rw [hgk] at x2
      rw [hpk] at x3
      rw [hex] at x4
      rw [hil] at x5
      rw [hlr] at x6
      rw [hir] at x7
      rw [hrr] at x8
      have hbu:=Nat.lt_of_lt_of_le hbu cw.size
      -- the entry
      have hky : k < zs.length:=by rw [HNp.out.2];exact hlt
      obtain ⟨y,hy⟩ : ∃ y,zs[k]? = some y:=⟨_,List.getElem?_eq_getElem hky⟩
      obtain ⟨be,oe,rfl,hbe,hce⟩:=HEz.out.1 (fun e=>by rw [e] at hky;simp at hky)
      obtain ⟨q1,hq1⟩ : ∃ q1,y.e.left.parts.length = q1:=⟨_,rfl⟩
      obtain ⟨q2,hq2⟩ : ∃ q2,y.e.left.rest = q2:=⟨_,rfl⟩
      obtain ⟨q3,hq3⟩ : ∃ q3,y.e.right.parts.length = q3:=⟨_,rfl⟩
      obtain ⟨q4,hq4⟩ : ∃ q4,y.e.right.rest = q4:=⟨_,rfl⟩
      obtain ⟨q5,hq5⟩ : ∃ q5,y.e.hs.length = q5:=⟨_,rfl⟩
      have y0:=Calm.at_ cw (hce k y hy 0 _ rfl) hbe
      have y1:=Calm.at_ cw (hce k y hy 1 _ rfl) hbe
      have y2:=Calm.at_ cw (hce k y hy 2 _ rfl) hbe
      have y3:=Calm.at_ cw (hce k y hy 3 _ rfl) hbe
      have y4:=Calm.at_ cw (hce k y hy 4 _ rfl) hbe
      rw [hq1] at y0
      rw [hq2] at y1
      rw [hq3] at y2
      rw [hq4] at y3
      rw [hq5] at y4
      rw [Nat.add_zero] at y0
      have hbe:=Nat.lt_of_lt_of_le hbe cw.size
      have HYe : Hid (EntN wz w2.heap.size y ∨ True):=.inr trivial
      have HYn:=Lib.hid (HEz.out.2 y (List.mem_of_getElem? hy))
      have HEp:=Lib.hid (HEs.out k z.p y hzm hy)
      have HZm:=Lib.hid hzm
      have hpo:=HPs.out z.p (List.mem_of_getElem? hzm)
      have HPo:=Lib.hid hpo
      have HZa : Hid (PcA wz z):=hza.calm cw
      have HZN : Hid (z.p.region.b.parts.length = gb ∧ z.p.region.b.rest = gr ∧ z.p.kind = pk):=⟨hgb,hgr,hpk⟩
      have HQ:=Lib.hid (And.intro hq1 (And.intro hq2 (And.intro hq3 (And.intro hq4 hq5))))
      have hgb0 : 0 < gb:=by
       rw [← hgb]
       exact pat_pos (gErr_zero hpo.1.g).1
      clear cw hz9 hza hzm hpo hgb hgr hgk hpk hex hil hlr hir hrr hq1 hq2 hq3 hq4 hq5 hce hy hky HYe
      by_cases hk1 : pk = 1
      ·subst hk1
       go_upto_region 16 with (fail)
       obtain ⟨w4,hw4⟩ : ∃ w4,w4 = (wz.alloc (.cells #[.slice z.A gb z.c,.bool gr,.slice z.HA gk z.hc,.int .i64 1,.bool ex,.slice z.a.AL il z.a.cl,.bool lr,.slice z.a.AR ir z.a.cr,.bool rr] 95)).alloc (.cells #[.slice y.LA q1 y.lc,.bool q2,.slice y.RA q3 y.rc,.bool q4,.slice y.HA q5 y.hc] 73):=⟨_,rfl⟩
       obtain ⟨B14,e14⟩ : ∃ B14,wz.heap.size = B14:=⟨_,rfl⟩
       obtain ⟨B15,e15⟩ : ∃ B15,B14 + 1 = B15:=⟨_,rfl⟩
       have hc4 : Calm wz w4:=by
        show Below _ _ _
        rw [hw4]
        exact ((Calm.refl _).alloc _).alloc _
       have h14 : CellsB w4 B14 [.slice z.A gb z.c,.bool gr,.slice z.HA gk z.hc,.int .i64 1,.bool ex,.slice z.a.AL il z.a.cl,.bool lr,.slice z.a.AR ir z.a.cr,.bool rr]:=by
        rw [hw4,← e14]
        exact (CellsB.new wz _ _).calm ((Calm.refl _).alloc _)
       have h15 : CellsB w4 B15 [.slice y.LA q1 y.lc,.bool q2,.slice y.RA q3 y.rc,.bool q4,.slice y.HA q5 y.hc]:=by
        rw [hw4,← e15,← e14]
        have:=CellsB.new (wz.alloc (.cells #[.slice z.A gb z.c,.bool gr,.slice z.HA gk z.hc,.int .i64 1,.bool ex,.slice z.a.AL il z.a.cl,.bool lr,.slice z.a.AR ir z.a.cr,.bool rr] 95)) #[.slice y.LA q1 y.lc,.bool q2,.slice y.RA q3 y.rc,.bool q4,.slice y.HA q5 y.hc] 73
        rwa [World.size_alloc] at this
       rw [← hw4]
       simp only [e14,e15]
       have HC4:=Lib.hid hc4
       have H15:=Lib.hid h15
       have HB15 : Hid (wz.heap.size ≤ B15 ∧ B15 < w4.heap.size):=⟨by omega,h15.lt⟩
       have g0:=h14.at_ 0 _ rfl
       have g1:=h14.at_ 1 _ rfl
       have l14:=h14.lt
       have KS:=Lib.hid (stored_c z.p.region.b pa z.A gb z.c gr w4 ((HZa.out.g.calm hc4).base) HZN.out.1 HZN.out.2.1 HP16 hgb0)
       clear hw4 e14 e15 hc4 h14 h15 x0 x1 x2 x3 x4 x5 x6 x7 x8 y0 y1 y2 y3 y4
       go_wp2_with fail
       refine KS.out.mono ?_
       rintro e w5 ⟨⟨A2,c2,rfl,hN2⟩,hc5⟩
       have h15:=H15.out.calm hc5
       have HC5 : Hid (Calm w4 w5):=hc5
       have HN2:=Lib.hid hN2
       have z0:=h15.at_ 0 _ rfl
       have z1:=h15.at_ 1 _ rfl
       have z2:=h15.at_ 2 _ rfl
       have z3:=h15.at_ 3 _ rfl
       have z4:=h15.at_ 4 _ rfl
       have f2:=h15.fz 2
       have f3:=h15.fz 3
       have l15:=h15.lt
       clear h15 hc5 hN2 g0 g1 l14 KS
       go_upto_region 17 with (fail)
       obtain ⟨w7,hw7⟩ : ∃ w7,w7 = (w5.setCell ⟨B15,2,none⟩ (.slice A2 gb c2)).setCell ⟨B15,3,none⟩ (.bool gr):=⟨_,rfl⟩
       have HC7 : Hid (Calm wz w7):=by
        show Below _ _ _
        rw [hw7]
        exact Below.setCell (p:=⟨B15,3,none⟩) (Below.setCell (p:=⟨B15,2,none⟩) (HC4.out.trans HC5.out) HB15.out.1 _) HB15.out.1 _
       have r0 : w7.cell? ⟨B15,0,none⟩ = some (.slice y.LA q1 y.lc):=by rw [hw7,World.cell?_setCell_other _ _ _ _ (by simp),World.cell?_setCell_other _ _ _ _ (by simp)];exact z0
       have r1 : w7.cell? ⟨B15,1,none⟩ = some (.bool q2):=by rw [hw7,World.cell?_setCell_other _ _ _ _ (by simp),World.cell?_setCell_other _ _ _ _ (by simp)];exact z1
       have r2 : w7.cell? ⟨B15,2,none⟩ = some (.slice A2 gb c2):=by
        rw [hw7,World.cell?_setCell_other _ _ _ _ (by simp)]
        exact World.cell?_setCell_same' _ _ _ (by rw [z2];rfl)
       have r3 : w7.cell? ⟨B15,3,none⟩ = some (.bool gr):=by
        rw [hw7]
        exact World.cell?_setCell_same' _ _ _ (by rw [World.cell?_setCell_other _ _ _ _ (by simp),z3];rfl)
       have r4 : w7.cell? ⟨B15,4,none⟩ = some (.slice y.HA q5 y.hc):=by rw [hw7,World.cell?_setCell_other _ _ _ _ (by simp),World.cell?_setCell_other _ _ _ _ (by simp)];exact z4
       have hN7 : NewS w7 w4.heap.size A2 c2 (storedP z.p.region.b pa).parts:=by
        rw [hw7]
        exact (HN2.out.set (p:=⟨B15,2,none⟩) _ HB15.out.2).set (p:=⟨B15,3,none⟩) _ HB15.out.2
       have HEN : Hid (EntN w7 w1.heap.size ⟨y.LA,y.lc,A2,c2,y.HA,y.hc,⟨y.e.left,storedP z.p.region.b pa,y.e.hs⟩⟩):=by
        have hy:=HYn.out.calm (HI.out.own.calm.trans HC7.out)
        refine ⟨hy.l,⟨hN7.mono (HC2.out.trans (HI.out.own.calm.trans HC4.out)).size,?_,fun l hl=>?_⟩,hy.h,hy.few⟩
        ·show (z.p.region.b.parts.set 0 pa).length ≤ 16384
         rw [List.length_set]
         have:=pat_few (gErr_zero HPo.out.1.g).1
         omega
        ·have:=stored_let HPo.out.2.b (n:=pa) (by omega) l hl
         omega
       have HQ2 : Hid ((storedP z.p.region.b pa).parts.length = gb ∧ (storedP z.p.region.b pa).rest = gr):=⟨by
        show (z.p.region.b.parts.set 0 pa).length = gb
        rw [List.length_set]
        exact HZN.out.1,HZN.out.2.1⟩
       have lt15 : B15 < w7.heap.size:=by
        rw [hw7]
        simpa using l15
       have hyl:=HI.out.few
       rw [← hw7]
       clear hw7 hN7 z0 z1 z2 z3 z4 f2 f3 l15
       go_wp2_with (at_builtin;refine wpList_append_xs (enc:=encE) (K:=5) (T:=73) Tryz.underlying25 info_ent rfl (by decide) (by decide) encE_len encE_one rfl (.tmp 66) (.tmp 68) rfl w2 _ ys [⟨y.LA,y.lc,A2,c2,y.HA,y.hc,⟨y.e.left,storedP z.p.region.b pa,y.e.hs⟩⟩] rfl (HI.out.own.to (HC7.out.trans ((Calm.refl _).alloc _))) _ 1 1 rfl rfl (read_newE ⟨y.LA,y.lc,A2,c2,y.HA,y.hc,⟨y.e.left,storedP z.p.region.b pa,y.e.hs⟩⟩ rfl HQ.out.1 HQ.out.2.1 HQ2.out.1 HQ2.out.2 HQ.out.2.2.2.2) (by omega) ?_;intro v8 w8 hown8 hg8)
       have HRel:=Lib.hid (HI.out.add (y:=⟨y.LA,y.lc,A2,c2,y.HA,y.hc,⟨y.e.left,storedP z.p.region.b pa,y.e.hs⟩⟩) HZm.out HEp.out HZN.out.2.2 rfl (HC7.out.trans ((Calm.refl _).alloc _)) (HEN.out.calm ((Calm.refl _).alloc _)) hg8 hown8)
       go_roundw
       case rel=>exact ⟨k + 1,ys ++ [(⟨y.LA,y.lc,A2,c2,y.HA,y.hc,⟨y.e.left,storedP z.p.region.b pa,y.e.hs⟩⟩ : NewE)],by omega,by go_num,HRel⟩
       case measure=>simp [intOf];omega
      ·have hkb1 : (pk == 1) = false:=by simpa using hk1
       have HRel:=Lib.hid (HI.out.skip HZm.out HEp.out (by rw [HZN.out.2.2];exact hk1) ((Calm.refl _).alloc (.cells #[.slice z.A gb z.c,.bool gr,.slice z.HA gk z.hc,.int .i64 pk,.bool ex,.slice z.a.AL il z.a.cl,.bool lr,.slice z.a.AR ir z.a.cr,.bool rr] 95)))
       go_wp2_with fail
       go_roundw
       case rel=>exact ⟨k + 1,ys,by omega,by go_num,HRel⟩
       case measure=>simp [intOf];omega
     ·obtain rfl : k = np:=by omega
      have hes : betP pa ps = some (ys.map (·.e)):=by
       have:=HI.out.is
       rw [List.take_of_length_le (by rw [HNp.out.1];exact Nat.le_refl _)] at this
       exact this
      have hbi : betR ss nm = (ys.map (·.e),0):=betR_some HR.out.1 HR.out.2.1 (by rw [HR.out.2.2];exact HP0.out) (by
       unfold betI
       rw [HX.out,HR.out.2.2]
       exact hes)
      obtain ⟨A',c',hv,h1,h2,h3⟩ : ∃ A' c',u12 = .slice A' ys.length c' ∧ ys.length ≤ c' ∧ c' ≤ 9223372036854775807 ∧ ReadX encE 5 wz A' ys:=by
       rcases HI.out.own.row encE_len with ⟨rfl,h0⟩ | ⟨g,c,rfl,h1,h2,_,hr⟩
       ·subst h0
        exact ⟨none,0,rfl,Nat.le_refl _,by omega,fun h=>absurd rfl h⟩
       ·exact ⟨_,c,rfl,h1,h2,fun _=>⟨g,0,rfl,hr.lt,fun k x hk i u hu=>hr.cell k x hk i u hu⟩⟩
      obtain ⟨Z,hZ⟩ : ∃ Z,ys.length = Z:=⟨_,rfl⟩
      rw [hZ] at hv
      subst hv
      have HCe : Hid (Calm w2 wz):=HI.out.own.calm
      have HFin : Hid (EntOut (betR ss nm).1 (betR ss nm).2 w.heap.size (.returned (.tuple #[.slice A' Z c',.int .i64 0])) wz):=by
       show EntOut _ _ _ _ _
       rw [hbi]
       exact ⟨A',c',by rw [List.length_map,hZ],by rw [List.length_map];exact h1,h2,ys,rfl,h3,fun z hz=>(HI.out.each z hz).mono HC1.out.size⟩
      clear hes hbi h1 h2 h3 hZ
      go_wp2_with fail
      go_ret2
      exact ⟨HFin.out,HC1.out.trans (HC2.out.trans HCe.out)⟩
end Go.Proofs.YtdcdabbepnahnaaGreatDoor
set_option linter.unusedVariables false
set_option linter.unusedSimpArgs false
namespace Go.Proofs.YtdcdabbepnahnaaGreatDoor.Sy

theorem path_two {p : Pat} (hp : patErr p = 0) {l : List Str} (hm : matchL p l = true) : 2 ≤ l.length:=by
 obtain ⟨h0,h1,_⟩:=patErr_form hp
 have hr:=(matchL_true.1 hm).1
 unfold reaches at hr
 rcases hre : p.rest with _ | _
 ·rw [hre] at hr
  simp only [Bool.false_eq_true,if_false] at hr
  have:=beq_iff_eq.1 hr
  have:=h1 hre
  omega
 ·rw [hre] at hr
  simp only [if_true] at hr
  have:=of_decide_eq_true hr
  omega
theorem fwd_ent {x : Ent} (hr : ruleErr x.rule = 0) {l : List Str} (hc : l.all comp = true) (hm : matchL x.left l = true) : fwd x.rule (pathStr l) = some (pathStr (trL x.left x.right l)):=by
 have tx : Twin x.left x.right:=ruleErr_twin.1 hr
 unfold fwd
 rw [if_pos hr,pathOf_str (path_two tx.lp hm) hc]
 simp only
 rw [if_pos (show matchL x.rule.left l = true from hm)]
 rfl
theorem right_len {x : Ent} (hg : gErr x.reg = 0) {g : Reg} (h : rightG x = some g) : g.hs.length ≤ 64:=by
 obtain ⟨ks,hk,rfl⟩:=Option.map_eq_some_iff.1 h
 have h1:=(rightHs_good hk).2
 have h2 : x.hs.length ≤ 64:=(gErr_zero hg).2.2
 show ks.length ≤ 64
 omega
end Go.Proofs.YtdcdabbepnahnaaGreatDoor.Sy
set_option linter.unusedVariables false
set_option linter.unusedSimpArgs false
namespace Go.Proofs.YtdcdabbepnahnaaGreatDoor.Sy

theorem two_have {ps : List Pc} {i j : Nat} {p q : Pc} (hi : ps[i]? = some p) (hj : ps[j]? = some q) (hij : i < j) {l : List Str} (h1 : hasG p.region l = true) (h2 : hasG q.region l = true) : 2 ≤ cntP ps l:=by
 have e : cntP ps l = cntP (ps.take j) l + cntP (ps.drop j) l:=by rw [← cntP_app,List.take_append_drop]
 have hp : p ∈ ps.take j:=List.mem_of_getElem? (i:=i) (by rw [List.getElem?_take,if_pos hij];exact hi)
 have hq : q ∈ ps.drop j:=List.mem_of_getElem? (i:=0) (by rw [List.getElem?_drop];exact hj)
 have:=cntP_pos hp h1
 have:=cntP_pos hq h2
 omega
theorem pcs_apart {ss : List Strm} (h : Good ss) {i : Nat} (hi : i < ss.length) {ps : List Pc} (hps : pcs ss i = some ps) {a b : Nat} {p q : Pc} (ha : ps[a]? = some p) (hb : ps[b]? = some q) (hab : a < b) {l : List Str} (hc : l.all comp = true) (h1 : hasG p.region l = true) (h2 : hasG q.region l = true) : False:=by
 have hm:=pcs_mean h i hi ps hps
 have h2l:=path_two (gErr_zero (hm.ok p (List.mem_of_getElem? ha)).g).1 (hasG_left' h1)
 have hp:=pathOf_str h2l hc
 have h3:=two_have ha hb hab h1 h2
 cases hu : underV (pathStr l) with
 |false=>
  rw [hm.far _ l hp hu] at h3
  omega
 |true=>
  have:=hm.cnt _ l hp hu
  split at this <;> omega
theorem ent_ok {p : Pc} {e : Ent} (h : PcOk p) (he : entOfP p = some e) : ruleErr e.rule = 0 ∧ gErr e.reg = 0:=by
 obtain ⟨ks,hks,rfl⟩:=Option.map_eq_some_iff.1 he
 have tw : Twin p.line.left p.line.right:=ruleErr_twin.1 h.r
 have hg:=rightHs_good hks
 refine ⟨ruleErr_twin.2 tw.turn,gErr_of tw.rp (fun k hk=>redL_good k hk) ?_⟩
 have h1:=redL_len p.line.right ks
 have h2:=(gErr_zero h.g).2.2
 show (redL p.line.right ks).length ≤ 64
 omega
theorem ent_src {ss : List Strm} (h : Good ss) {i : Nat} (hi : i < ss.length) {ps : List Pc} (hps : pcs ss i = some ps) {p : Pc} (hp : p ∈ ps) {e : Ent} (he : entOfP p = some e) {l : List Str} (hc : l.all comp = true) (hh : hasG e.reg l = true) :
  ∃ l' : List Str,l'.all comp = true ∧ 2 ≤ l'.length ∧ hasG p.region l' = true ∧ underV (pathStr l') = true ∧ (see ss i (pathStr l')).1 ≠ 0 ∧ (see ss i (pathStr l')).2 = pathStr l:=by
 have hm:=pcs_mean h i hi ps hps
 have ok:=hm.ok p hp
 have tw : Twin p.line.left p.line.right:=ruleErr_twin.1 ok.r
 rw [(entOfP_has ok he).2.2.1 l hc] at hh
 unfold hasR' at hh
 rw [Bool.and_eq_true] at hh
 obtain ⟨h1,h2⟩:=hh
 rw [pcEnt_reg ok] at h2
 have h1' : matchL p.line.right l = true:=h1
 obtain ⟨t1,t2,t3,t4⟩:=tr_twin tw.turn hc h1'
 have h2' : hasG p.region (trL p.line.right p.line.left l) = true:=h2
 have hpo:=pathOf_str t3 t2
 have hf : fwd p.line (pathStr (trL p.line.right p.line.left l)) = some (pathStr l):=by
  have:=fwd_ent (x:=pcEnt p) (by rw [pcEnt_rule ok];exact ok.r) t2 t1
  rw [pcEnt_rule ok] at this
  rw [this]
  show some (pathStr (trL p.line.left p.line.right _)) = _
  rw [t4]
 have hu : underV (pathStr (trL p.line.right p.line.left l)) = true:=by
  cases hu : underV (pathStr (trL p.line.right p.line.left l)) with
  |true=>rfl
  |false=>
   have h3:=cntP_pos hp h2'
   rw [hm.far _ _ hpo hu] at h3
   omega
 obtain ⟨e1,e2⟩:=hm.each _ _ hpo hu p hp h2'
 rw [hf] at e2
 refine ⟨_,t2,t3,h2',hu,?_,(Option.some.inj e2).symm⟩
 have e1' : p.kind = (see ss i (pathStr (trL p.line.right p.line.left l))).1:=e1
 rw [← e1']
 rcases ok.k with hk | hk | hk <;> rw [hk] <;> decide
theorem left_apart {ss : List Strm} (h : Good ss) {i : Nat} (hi : i < ss.length) {ps : List Pc} (hps : pcs ss i = some ps) {a b : Nat} {p q : Pc} (ha : ps[a]? = some p) (hb : ps[b]? = some q) (hab : a < b) {x y : Ent} (hx : entOfP p = some x) (hy : entOfP q = some y) {l : List Str} (hc : l.all comp = true) (h1 : hasG x.reg l = true) (h2 : hasG y.reg l = true) : False:=by
 obtain ⟨u,u1,u2,u3,u4,u5,u6⟩:=ent_src h hi hps (List.mem_of_getElem? ha) hx hc h1
 obtain ⟨v,v1,v2,v3,v4,v5,v6⟩:=ent_src h hi hps (List.mem_of_getElem? hb) hy hc h2
 have e:=sources h hi u4 v4 u5 v5 (by rw [u6,v6])
 have e2:=congrArg pathOf e
 rw [pathOf_str u2 u1,pathOf_str v2 v1] at e2
 obtain rfl:=Option.some.inj e2
 exact pcs_apart h hi hps ha hb hab u1 u3 v3
theorem bool_no {b : Bool} (h : b = true → False) : b = false:=by
 cases b
 ·rfl
 ·exact (h rfl).elim
theorem view_mapE {ss : List Strm} (h : Good ss) {i : Nat} (hi : i < ss.length) {es : List Ent} (hv : viewI ss i = some es) : (mapE es).2 = 0 ∨ (mapE es).2 = 72:=by
 unfold viewI at hv
 rcases hps : pcs ss i with _ | ps
 ·rw [hps] at hv
  cases hv
 ·rw [hps] at hv
  simp only at hv
  have hm:=pcs_mean h i hi ps hps
  obtain ⟨hl,hat⟩:=entsP_at hv
  have get : ∀ {k : Nat} {x : Ent},es[k]? = some x → ∃ p,ps[k]? = some p ∧ entOfP p = some x:=fun {k x} hx=>by
   have hk:=(List.getElem?_eq_some_iff.1 hx).1
   rw [hl] at hk
   obtain ⟨e,h1,h2⟩:=hat k _ (List.getElem?_eq_getElem hk)
   rw [hx] at h1
   obtain rfl:=Option.some.inj h1
   exact ⟨_,List.getElem?_eq_getElem hk,h2⟩
  refine mapE_or (fun x hx=>?_) fun hr=>?_
  ·obtain ⟨k,hk,rfl⟩:=List.mem_iff_getElem.1 hx
   obtain ⟨p,hp,he⟩:=get (List.getElem?_eq_getElem hk)
   exact ent_ok (hm.ok p (List.mem_of_getElem? hp)) he
  ·rw [List.pairwise_iff_getElem]
   intro a b ha hb hab
   obtain ⟨p,hp,hx⟩:=get (List.getElem?_eq_getElem ha)
   obtain ⟨q,hq,hy⟩:=get (List.getElem?_eq_getElem hb)
   have okp:=hm.ok p (List.mem_of_getElem? hp)
   have okq:=hm.ok q (List.mem_of_getElem? hq)
   have gp:=ent_ok okp hx
   have gq:=ent_ok okq hy
   obtain ⟨g1,hg1⟩:=hr _ (List.getElem_mem ha)
   obtain ⟨g2,hg2⟩:=hr _ (List.getElem_mem hb)
   unfold clashE
   rw [Bool.or_eq_false_iff]
   refine ⟨bool_no fun hcm=>?_,bool_no fun hcm=>?_⟩
   ·have l1:=(gErr_zero gp.2).2.2
    have l2:=(gErr_zero gq.2).2.2
    obtain ⟨l,hc,h1,h2⟩:=common_some (by omega) hcm
    exact left_apart h hi hps hp hq hab hx hy hc h2 h1
   ·rw [(rG_some hg1).1,(rG_some hg2).1] at hcm
    have l1:=right_len gp.2 hg1
    have l2:=right_len gq.2 hg2
    obtain ⟨l,hc,h1,h2⟩:=common_some (by omega) hcm
    rw [← hasR'_rG gq.1 gq.2 hg2 hc,(entOfP_has okq hy).2.2.2 l hc] at h1
    rw [← hasR'_rG gp.1 gp.2 hg1 hc,(entOfP_has okp hx).2.2.2 l hc] at h2
    exact pcs_apart h hi hps hp hq hab hc h2 h1
theorem betP_at {par : Str} : ∀ {ps : List Pc} {es : List Ent},betP par ps = some es → ∃ js : List Nat,js.length = es.length ∧ js.Pairwise (· < ·) ∧ ∀ (k : Nat) j x,js[k]? = some j → es[k]? = some x → ∃ p e,ps[j]? = some p ∧ p.kind = 1 ∧ entOfP p = some e ∧ x = ⟨e.left,storedP p.region.b par,e.hs⟩
 |[],es,h=>by
  obtain rfl:=Option.some.inj h
  exact ⟨[],rfl,List.Pairwise.nil,fun k j x hk=>by simp at hk⟩
 |p :: r,es,h=>by
  unfold betP at h
  rcases he : entOfP p with _ | e
  ·rw [he] at h
   cases h
  ·rw [he] at h
   obtain ⟨es',h1,h2⟩:=Option.map_eq_some_iff.1 h
   obtain ⟨js,a1,a2,a3⟩:=betP_at h1
   have hp2 : (js.map (· + 1)).Pairwise (· < ·):=by
    rw [List.pairwise_map]
    exact a2.imp fun {a b} hab=>by omega
   have hat : ∀ (k : Nat) j x,(js.map (· + 1))[k]? = some j → es'[k]? = some x → ∃ q e,(p :: r)[j]? = some q ∧ q.kind = 1 ∧ entOfP q = some e ∧ x = ⟨e.left,storedP q.region.b par,e.hs⟩:=fun k j x hk hx=>by
    rw [List.getElem?_map] at hk
    obtain ⟨j',hj',rfl⟩:=Option.map_eq_some_iff.1 hk
    obtain ⟨q,e',b1,b2⟩:=a3 k j' x hj' hx
    exact ⟨q,e',by simpa using b1,b2⟩
   by_cases hk : p.kind = 1
   ·rw [if_pos hk] at h2
    subst h2
    refine ⟨0 :: js.map (· + 1),by simp [a1],List.pairwise_cons.2 ⟨fun j hj=>?_,hp2⟩,fun k j x hj hx=>?_⟩
    ·obtain ⟨j',_,rfl⟩:=List.mem_map.1 hj
     omega
    ·cases k with
     |zero=>
      obtain rfl : 0 = j:=by simpa using hj
      obtain rfl : (⟨e.left,storedP p.region.b par,e.hs⟩ : Ent) = x:=by simpa using hx
      exact ⟨p,e,rfl,hk,he,rfl⟩
     |succ k=>exact hat k j x (by simpa using hj) (by simpa using hx)
   ·rw [if_neg hk] at h2
    subst h2
    exact ⟨js.map (· + 1),by simp [a1],hp2,hat⟩
theorem bet_mapE {ss : List Strm} (h : Good ss) {i p : Nat} (hi : i < ss.length) (hpar : parentI ss i = some p) {es : List Ent} (hv : betI ss i = some es) : (mapE es).2 = 0 ∨ (mapE es).2 = 72:=by
 unfold betI at hv
 rcases hps : pcs ss i with _ | ps
 ·rw [hps] at hv
  cases hv
 ·rw [hps] at hv
  simp only at hv
  have hm:=pcs_mean h i hi ps hps
  have hn:=(ownErr_zero (h.own i hi)).1
  have hpn : comp (strm ss i).parent = true:=by
   rw [← parent_name hpar]
   exact (ownErr_zero (h.own p (parentI_lt hpar))).1
  obtain ⟨js,a1,a2,a3⟩:=betP_at hv
  have get : ∀ {k : Nat} {x : Ent},es[k]? = some x → ∃ j q e,js[k]? = some j ∧ ps[j]? = some q ∧ q.kind = 1 ∧ entOfP q = some e ∧ x = ⟨e.left,storedP q.region.b (strm ss i).parent,e.hs⟩:=fun {k x} hx=>by
   have hk:=(List.getElem?_eq_some_iff.1 hx).1
   rw [← a1] at hk
   obtain ⟨q,e,h1⟩:=a3 k _ x (List.getElem?_eq_getElem hk) hx
   exact ⟨_,q,e,List.getElem?_eq_getElem hk,h1⟩
  have good : ∀ {q : Pc} {e : Ent},q ∈ ps → q.kind = 1 → entOfP q = some e → ruleErr (⟨e.left,storedP q.region.b (strm ss i).parent,e.hs⟩ : Ent).rule = 0 ∧ gErr (⟨e.left,storedP q.region.b (strm ss i).parent,e.hs⟩ : Ent).reg = 0:=fun {q e} hq hk he=>by
   have ok:=hm.ok q hq
   have ho:=hm.own q hq (by rw [hk];decide)
   have hl:=(entOfP_has ok he).1
   have hg:=(ent_ok ok he).2
   refine ⟨ruleErr_twin.2 ?_,hg⟩
   show Twin e.left (storedP q.region.b (strm ss i).parent)
   rw [hl,ho]
   have t1:=stored_twin (gErr_zero ok.g).1 ok.v hn
   have t2:=stored_twin (gErr_zero ok.g).1 ok.v hpn
   exact ⟨t1.rp,t2.rp,t1.sn.symm.trans t2.sn,t1.rs.symm.trans t2.rs⟩
  refine mapE_or (fun x hx=>?_) fun hr=>?_
  ·obtain ⟨k,hk,ex⟩:=List.mem_iff_getElem.1 hx
   obtain ⟨j,q,e,_,hq,hk1,he,hxe⟩:=get (List.getElem?_eq_getElem hk)
   rw [ex] at hxe
   rw [hxe]
   exact good (List.mem_of_getElem? hq) hk1 he
  ·rw [List.pairwise_iff_getElem]
   intro a b ha hb hab
   obtain ⟨j1,q1,e1,hj1,hq1,hk1,he1,hx1⟩:=get (List.getElem?_eq_getElem ha)
   obtain ⟨j2,q2,e2,hj2,hq2,hk2,he2,hx2⟩:=get (List.getElem?_eq_getElem hb)
   have hjj : j1 < j2:=by
    obtain ⟨b1,c1⟩:=List.getElem?_eq_some_iff.1 hj1
    obtain ⟨b2,c2⟩:=List.getElem?_eq_some_iff.1 hj2
    rw [← c1,← c2]
    exact List.pairwise_iff_getElem.1 a2 a b b1 b2 hab
   have ok1:=hm.ok q1 (List.mem_of_getElem? hq1)
   have ok2:=hm.ok q2 (List.mem_of_getElem? hq2)
   have gp:=good (List.mem_of_getElem? hq1) hk1 he1
   have gq:=good (List.mem_of_getElem? hq2) hk2 he2
   obtain ⟨g1,hg1⟩:=hr _ (List.getElem_mem ha)
   obtain ⟨g2,hg2⟩:=hr _ (List.getElem_mem hb)
   rw [hx1] at hg1 ⊢
   rw [hx2] at hg2 ⊢
   unfold clashE
   rw [Bool.or_eq_false_iff]
   refine ⟨bool_no fun hcm=>?_,bool_no fun hcm=>?_⟩
   ·have l1:=(gErr_zero gp.2).2.2
    have l2:=(gErr_zero gq.2).2.2
    obtain ⟨l,hc,h1,h2⟩:=common_some (by omega) hcm
    exact left_apart h hi hps hq1 hq2 hjj he1 he2 hc h2 h1
   ·rw [(rG_some hg1).1,(rG_some hg2).1] at hcm
    have l1:=right_len gp.2 hg1
    have l2:=right_len gq.2 hg2
    obtain ⟨l,hc,h1,h2⟩:=common_some (by omega) hcm
    rw [← hasR'_rG gq.1 gq.2 hg2 hc] at h1
    rw [← hasR'_rG gp.1 gp.2 hg1 hc] at h2
    -- a right path's client path
    have back : ∀ {q : Pc} {e : Ent},q ∈ ps → q.kind = 1 → entOfP q = some e → hasR' l (⟨e.left,storedP q.region.b (strm ss i).parent,e.hs⟩ : Ent) = true → ∃ r,l = (strm ss i).parent :: r ∧ hasG q.region (viewN :: r) = true:=fun {q e} hq hk he hh=>by
     have ok:=hm.ok q hq
     have ho:=hm.own q hq (by rw [hk];decide)
     have hl:=(entOfP_has ok he).1
     have hge:=good hq hk he
     obtain ⟨t,ht⟩:=head_cons ok.v
     unfold hasR' at hh
     rw [Bool.and_eq_true] at hh
     have h3 : matchL (storedP q.region.b (strm ss i).parent) l = true:=hh.1
     have h4 : hasG e.reg (trL (storedP q.region.b (strm ss i).parent) e.left l) = true:=hh.2
     rw [hl,ho] at h4
     rw [storedP_cons ht] at h3 h4
     obtain ⟨r,rfl⟩:=swap_head (comp_noStar hpn) h3
     rw [storedP_cons ht,swap_tr (comp_noStar hpn) (comp_noStar hn) h3] at h4
     have hcn : ((strm ss i).name :: r).all comp = true:=by
      rw [List.all_cons,Bool.and_eq_true] at hc ⊢
      exact ⟨hn,hc.2⟩
     obtain ⟨r',e9,h5⟩:=(own_has ok hn ho he hcn).1 h4
     obtain rfl : r = r':=by simpa using e9
     exact ⟨r,rfl,h5⟩
    obtain ⟨r1,er1,c1⟩:=back (List.mem_of_getElem? hq2) hk2 he2 h1
    obtain ⟨r2,er2,c2⟩:=back (List.mem_of_getElem? hq1) hk1 he1 h2
    rw [er1] at er2
    obtain rfl : r1 = r2:=by simpa using er2
    have hcv : (viewN :: r1).all comp = true:=by
     rw [er1] at hc
     rw [List.all_cons,Bool.and_eq_true] at hc ⊢
     exact ⟨by decide,hc.2⟩
    exact pcs_apart h hi hps hq1 hq2 hjj hcv c2 c1
end Go.Proofs.YtdcdabbepnahnaaGreatDoor.Sy
set_option linter.unusedVariables false
set_option linter.unusedSimpArgs false
namespace Go.Proofs.YtdcdabbepnahnaaGreatDoor
open Go Go.RowKit Sy

theorem smallS_z {ss : List Strm} (h : smallS ss = true) : StrmsZ ss:=fun s hs x hx=>by
 rw [smallS,Bool.and_eq_true,Bool.and_eq_true,decide_eq_true_eq,decide_eq_true_eq] at h
 have h1:=List.all_eq_true.1 h.1.1 s hs
 simp only [okS,Bool.and_eq_true] at h1
 have h6:=List.all_eq_true.1 (List.all_eq_true.1 h1.2 x hx)
 exact ⟨fun p hp=>by have:=h6 p (List.mem_append_left _ hp);simpa using this,fun p hp=>by have:=h6 p (List.mem_append_right _ hp);simpa using this⟩
theorem view_small {ss : List Strm} (h : Sy.Good ss) (hz : StrmsZ ss) {i : Nat} (hi : i < ss.length) {es : List Ent} (hv : viewI ss i = some es) : (∀ e ∈ es,SmallE e) ∧ es.length ≤ 32:=by
 unfold viewI at hv
 rcases hps : pcs ss i with _ | ps
 ·rw [hps] at hv
  cases hv
 ·rw [hps] at hv
  have hm:=pcs_mean h i hi ps hps
  exact ⟨fun e he=>(entsP_z (fun p hp=>hm.ok p hp) (fun p hp=>pcs_z h hz i hi ps hps p hp) hv e he).mono (by decide),by rw [(entsP_at hv).1];exact pcs_len h hps⟩
theorem view_mbS {ss : List Strm} (h : Sy.Good ss) {i : Nat} (hi : i < ss.length) {es : List Ent} (hv : viewI ss i = some es) (hm : (mapE es).2 = 0) (c : Str) : ((locI ss i c).1 ≠ 0 → mbS es c = some (locI ss i c).2) ∧ ((locI ss i c).1 = 0 → mbS es c = none ∧ (locI ss i c).2 = []):=by
 unfold mbS
 rw [if_pos hm,view_mean h hi hv]
 constructor
 ·intro hk
  obtain ⟨hu,he⟩:=locI_under hk
  rw [he] at hk ⊢
  rw [if_pos ⟨hu,hk⟩]
 ·intro hk
  unfold locI at hk ⊢
  by_cases hu : underV c = true
  ·rw [if_pos hu] at hk ⊢
   rw [if_neg (fun h2=>h2.2 hk)]
   exact ⟨rfl,see_zero h hi c hk⟩
  ·rw [if_neg hu,if_neg (fun h2=>hu h2.1)]
   exact ⟨rfl,rfl⟩

set_option maxRecDepth 100000 in
set_option maxHeartbeats 8000000 in
theorem strViewMeans_c (ss : List Strm) (nm s1 : Str) (A : Option Addr) (n c : Nat) (w : World) (hv : StrmsU w A ss) (hn : ss.length = n) (hnm : nm.length ≤ 1048576) (hl1 : s1.length ≤ 1048576) (hM : MaxL w) :
  Calls Tryz.prog 4 #[.slice A n c,.string (bs nm),.string (bs s1)] w fun e w'=>e = .returned (.bool true) ∧ Calm w w':=by
 obtain ⟨y,hy⟩ : ∃ y,smallS ss = y:=⟨_,rfl⟩
 have hsmall:=smallS_c ss y A n c w hv hn hy
 have hlen:=hv.len
 rw [hn] at hlen
 have hz1:=bs_size s1
 have KA : Hid (∀ W,Calm w W → Calls Tryz.prog 8 #[] W fun e w'=>e = .returned (.bool true) ∧ Calm W w'):=fun W hW=>awakeS_c W (hM.calm hW)
 cases y with
 |false=>
  clear hv hn hM hy
  go_enter Tryz.func4,Tryz.ntmps4
  go_wp2_with (first
   |(go_at_call 7;refine hsmall.mono ?_;rintro e w2 ⟨rfl,hc2⟩)
   |(go_at_call 8;refine (KA.out w2 hc2).mono ?_;rintro e w3 ⟨rfl,hc3⟩))
  go_ret
  exact ⟨rfl,hc2.trans hc3⟩
 |true=>
  obtain ⟨hsm,_⟩:=smallS_small hy
  have hsz:=smallS_z hy
  by_cases h1 : 200 < s1.length
  ·clear hv hn hM hy hsm hsz
   go_enter Tryz.func4,Tryz.ntmps4
   go_wp2_with (first
    |(go_at_call 7;refine hsmall.mono ?_;rintro e w2 ⟨rfl,hc2⟩)
    |(go_at_call 8;refine (KA.out w2 hc2).mono ?_;rintro e w3 ⟨rfl,hc3⟩))
   go_ret
   exact ⟨rfl,hc2.trans hc3⟩
  ·have KL : Hid (∀ W,Calm w W → Calls Tryz.prog 13 #[.slice A n c,.string (bs nm),.string (bs s1)] W fun e w'=>e = .returned (.tuple #[.int .i64 (locE ss nm s1).1,.string (bs (locE ss nm s1).2.1),.int .i64 (locE ss nm s1).2.2]) ∧ Calm W w'):=fun W hW=>locate_c ss nm s1 A n c W (hv.calm hW) hn hnm (by omega) hsm (hM.calm hW)
   have KV : Hid (∀ W,Calm w W → Calls Tryz.prog 9 #[.slice A n c,.string (bs nm)] W fun e w'=>EntOut (viewR ss nm).1 (viewR ss nm).2 W.heap.size e w' ∧ Calm W w'):=fun W hW=>View_c ss nm A n c W (hv.calm hW) hn hnm hsm hsz
   have HM:=Lib.hid hM
   have HZ:=Lib.hid hsz
   clear hv hn hM hy hsm hsz hlen hnm
   by_cases hx : readyE ss nm = 0
   ·obtain ⟨i,hg,hfi,hi,hE⟩:=locE_ok hx
    rw [hE s1] at KL
    obtain ⟨k,hk⟩ : ∃ k,(locI ss i s1).1 = k:=⟨_,rfl⟩
    obtain ⟨s,hs⟩ : ∃ s,(locI ss i s1).2 = s:=⟨_,rfl⟩
    simp only [hk,hs] at KL
    rcases hvi : viewI ss i with _ | es
    ·rw [viewR_none hx hfi hvi] at KV
     clear hx hE hfi hi hg hvi hk hs HZ
     go_enter Tryz.func4,Tryz.ntmps4
     go_wp2_with (first
      |(go_at_call 7;refine hsmall.mono ?_;rintro e w2 ⟨rfl,hc2⟩)
      |(go_at_call 13;refine (KL.out w2 hc2).mono ?_;rintro e w3 ⟨rfl,hc3⟩)
      |(go_at_call 9;refine (KV.out w3 (hc2.trans hc3)).mono ?_;rintro e w4 ⟨⟨A2,c2,rfl,_,_,_⟩,hc4⟩;have HC4:=Lib.hid ((hc2.trans hc3).trans hc4))
      |(go_at_call 8;refine (KA.out w4 HC4.out).mono ?_;rintro e w5 ⟨rfl,hc5⟩))
     go_ret
     exact ⟨rfl,HC4.out.trans hc5⟩
    ·rw [viewR_some hx hfi hvi] at KV
     obtain ⟨hse,h32⟩:=view_small hg HZ.out hi hvi
     obtain ⟨m,hm⟩ : ∃ m,es.length = m:=⟨_,rfl⟩
     obtain ⟨ix,hix⟩ : ∃ ix,(mapE es).1 = ix:=⟨_,rfl⟩
     obtain ⟨er,her⟩ : ∃ er,(mapE es).2 = er:=⟨_,rfl⟩
     have hmo:=view_mapE hg hi hvi
     rw [her] at hmo
     have KV2 : Hid (∀ W,Calm w W → Calls Tryz.prog 9 #[.slice A n c,.string (bs nm)] W fun e w'=>(∃ A2 c2,e = .returned (.tuple #[.slice A2 m c2,.int .i64 0]) ∧ m ≤ c2 ∧ c2 ≤ 9223372036854775807 ∧ EntsA w' A2 es) ∧ Calm W w'):=fun W hW=>(KV.out W hW).mono fun e w' ⟨⟨A2,c2,he,g1,g2,zs,g3,g4,g5⟩,hc⟩=>⟨⟨A2,c2,by rw [he,hm],by rw [← hm];exact g1,g2,entsA_of g3 g4 g5 (by omega)⟩,hc⟩
     have KCk : Hid (∀ W A2 c2,EntsA W A2 es → m ≤ c2 → c2 ≤ 9223372036854775807 → Calls Tryz.prog 14 #[.slice A2 m c2] W fun e w'=>e = .returned (.tuple #[.int .i64 (ix : Nat),.int .i64 er]) ∧ Calm W w'):=fun W A2 c2 hW g1 g2=>by
      have:=check_c es m c2 A2 W hW g1 g2 hse hm
      rw [hix,her] at this
      exact this
     have KB : Hid (er = 0 → ∀ W A2 c2,Calm w W → EntsA W A2 es → m ≤ c2 → c2 ≤ 9223372036854775807 → Calls Tryz.prog 15 #[.slice A2 m c2,.string (bs s1)] W fun e w'=>e = .returned (optV (mbS es s1)) ∧ Calm W w'):=fun h0 W A2 c2 hw hW g1 g2=>by
      have:=mbwd_c es s1 m c2 A2 W hW g1 g2 hm hse (by omega) (HM.out.calm hw)
      rw [mbV_eq] at this
      exact this
     have HB : Hid (er = 0 → (k ≠ 0 → mbS es s1 = some s) ∧ (k = 0 → mbS es s1 = none ∧ s = [])):=fun h0=>by
      have:=view_mbS hg hi hvi (by rw [her];exact h0) s1
      rw [hk,hs] at this
      exact this
     have KF : Hid (er = 0 → k ≠ 0 → ∀ W A2 c2,Calm w W → EntsA W A2 es → m ≤ c2 → c2 ≤ 9223372036854775807 → Calls Tryz.prog 16 #[.slice A2 m c2,.string (bs s)] W fun e w'=>e = .returned (.tuple #[.string (bs s1),.bool true]) ∧ Calm W w'):=fun h0 hk0 W A2 c2 hw hW g1 g2=>by
      have hb:=(HB.out h0).1 hk0
      have hl:=bwS_len hse (by omega : s1.length ≤ 300) hb
      have:=mfwd_c es s m c2 A2 W hW g1 g2 hm hse (by omega) (HM.out.calm hw)
      rw [mfV_eq,back_forth hb] at this
      exact this
     clear hx hE hfi hi hg hvi hk hs HZ KV hse h32 hm hix her HM
     go_enter Tryz.func4,Tryz.ntmps4
     go_wp2_with (first
      |(go_at_call 7;refine hsmall.mono ?_;rintro e w2 ⟨rfl,hc2⟩)
      |(go_at_call 13;refine (KL.out w2 hc2).mono ?_;rintro e w3 ⟨rfl,hc3⟩)
      |(go_at_call 9;refine (KV2.out w3 (hc2.trans hc3)).mono ?_;rintro e w4 ⟨⟨A2,c2,rfl,g1,g2,hes⟩,hc4⟩;have HC4:=Lib.hid ((hc2.trans hc3).trans hc4);have HEs:=Lib.hid (And.intro hes (And.intro g1 g2));clear hes g1 g2))
     refine (KCk.out w4 A2 c2 HEs.out.1 HEs.out.2.1 HEs.out.2.2).mono ?_
     rintro e w5 ⟨rfl,hc5⟩
     have HC5 : Hid (Calm w w5):=HC4.out.trans hc5
     have HE5 : Hid (EntsA w5 A2 es):=HEs.out.1.calm hc5
     clear hc5
     rcases hmo with rfl | rfl
     ·go_wp2_with fail
      refine (KB.out (by trivial) w5 A2 c2 HC5.out HE5.out HEs.out.2.1 HEs.out.2.2).mono ?_
      rintro e w6 ⟨rfl,hc6⟩
      have HC6 : Hid (Calm w w6):=HC5.out.trans hc6
      have HE6 : Hid (EntsA w6 A2 es):=HE5.out.calm hc6
      clear hc6
      by_cases hk0 : k = 0
      ·obtain ⟨hb,rfl⟩:=(HB.out (by trivial)).2 hk0
       rw [hb]
       subst hk0
       simp only [optV,Option.getD_none,Option.isSome_none]
       clear hb
       go_wp2_with (go_at_call 8;refine (KA.out w6 HC6.out).mono ?_;rintro e w7 ⟨rfl,hc7⟩)
       go_ret
       exact ⟨rfl,HC6.out.trans hc7⟩
      ·have hb:=(HB.out (by trivial)).1 hk0
       have hkb : (k != 0) = true:=by simpa using hk0
       rw [hb]
       simp only [optV,Option.getD_some,Option.isSome_some]
       have KF1:=Lib.hid (KF.out (by trivial) hk0)
       clear hb hk0
       go_wp2_with fail
       refine (KF1.out w6 A2 c2 HC6.out HE6.out HEs.out.2.1 HEs.out.2.2).mono ?_
       rintro e w7 ⟨rfl,hc7⟩
       have HC7 : Hid (Calm w w7):=HC6.out.trans hc7
       clear hc7
       go_wp2_with (go_at_call 8;refine (KA.out w7 HC7.out).mono ?_;rintro e w8 ⟨rfl,hc8⟩)
       go_ret
       exact ⟨rfl,HC7.out.trans hc8⟩
     ·go_wp2_with (go_at_call 8;refine (KA.out w5 HC5.out).mono ?_;rintro e w6 ⟨rfl,hc6⟩)
      go_ret
      exact ⟨rfl,HC5.out.trans hc6⟩
   ·have hE:=locE_bad (s:=s1) (x:=readyE ss nm) rfl hx
    obtain ⟨x,hxx⟩ : ∃ x,readyE ss nm = x:=⟨_,rfl⟩
    rw [hE] at KL
    rw [viewR_bad hx] at KV
    rw [hxx] at KL KV hx
    have hxb : (x != 0) = true:=by simpa using hx
    have HX:=Lib.hid hx
    clear hE hxx hx HZ HM
    go_enter Tryz.func4,Tryz.ntmps4
    go_wp2_with (first
     |(go_at_call 7;refine hsmall.mono ?_;rintro e w2 ⟨rfl,hc2⟩)
     |(go_at_call 13;refine (KL.out w2 hc2).mono ?_;rintro e w3 ⟨rfl,hc3⟩)
     |(go_at_call 9;refine (KV.out w3 (hc2.trans hc3)).mono ?_;rintro e w4 ⟨⟨A2,c2,rfl,_,_,_⟩,hc4⟩;have HC4:=Lib.hid ((hc2.trans hc3).trans hc4))
     |(go_at_call 8;refine (KA.out w4 HC4.out).mono ?_;rintro e w5 ⟨rfl,hc5⟩))
    go_ret
    exact ⟨rfl,HC4.out.trans hc5⟩
end Go.Proofs.YtdcdabbepnahnaaGreatDoor
