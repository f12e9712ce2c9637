/- The mapping between a stream's storage and its parent's, and what it means. No program in sight. -/
import Derived.Test.YtdcdabbepnahnaaGreatDoorZPcL
import Derived.Test.YtdcdabbepnahnaaGreatDoorZMapO
set_option linter.unusedVariables false
set_option linter.unusedSimpArgs false
namespace Go.Proofs.YtdcdabbepnahnaaGreatDoor.Sy
structure UpMean (up : List Pc) (f : Str → Int × Str) : Prop where
 ups : ∀ p ∈ up,PcUp p
 cnt : ∀ c l,pathOf c = some l → underV c = true → cntP up l = if (f c).1 = 0 then 0 else 1
 each : ∀ c l,pathOf c = some l → underV c = true → ∀ p ∈ up,hasG p.region l = true → p.kind = (f c).1 ∧ (p.kind = 3 → fwd p.line c = some (f c).2)
structure PcMean (name : Str) (ps : List Pc) (f : Str → Int × Str) : Prop where
 ok : ∀ p ∈ ps,PcOk p
 own : ∀ p ∈ ps,p.kind ≠ 3 → p.line.right = storedP p.region.b name
 far : ∀ c l,pathOf c = some l → underV c = false → cntP ps l = 0
 cnt : ∀ c l,pathOf c = some l → underV c = true → cntP ps l = if (f c).1 = 0 then 0 else 1
 each : ∀ c l,pathOf c = some l → underV c = true → ∀ p ∈ ps,hasG p.region l = true → p.kind = (f c).1 ∧ fwd p.line c = some (f c).2
theorem PcMean.up {name : Str} {ps : List Pc} {f : Str → Int × Str} (h : PcMean name ps f) : UpMean ps f:=⟨fun p hp=>(h.ok p hp).up,h.cnt,fun c l hp hu p hpm hh=>⟨(h.each c l hp hu p hpm hh).1,fun _=>(h.each c l hp hu p hpm hh).2⟩⟩
theorem cntP_pos {ps : List Pc} {l : List Str} {p : Pc} (hp : p ∈ ps) (h : hasG p.region l = true) : 0 < cntP ps l:=List.countP_pos_iff.2 ⟨p,hp,h⟩
theorem root_mean : UpMean rootPs (fun _=>(1,[])):=by
 refine ⟨root_up,fun c l hp hu=>?_,fun c l hp hu p hpm hh=>?_⟩
 ·have h1 : matchS allG.b c = true:=all_match hu
  rw [matchS_path (by decide) hp] at h1
  have h2 : hasG allG l = true:=by
   unfold hasG hasL
   rw [h1]
   rfl
  unfold cntP rootPs
  simp [h2]
 ·obtain rfl:=List.mem_singleton.1 hpm
  exact ⟨rfl,fun h=>absurd h (by decide)⟩
theorem step_mean {s : Strm} {up out : List Pc} {f : Str → Int × Str} (hn : comp s.name = true) (hl : ∀ x ∈ s.paths,lineOk x = true) (hu : UpMean up f) (h : linesPs s.name up s.paths [] = some out) : PcMean s.name out (fun c=>seeStep s c (f c)):=by
 obtain ⟨news,h1,h2,h3,h4⟩:=linesPs_spec hn hu.ups s.paths [] out hl h
 rw [List.nil_append] at h1
 subst h1
 have hlive : ∀ {c : Str} {x : Line},liveL s.paths c = some x → decLine s.paths c = some x ∧ x.kind ≠ 4:=fun {c x} hx=>by
  unfold liveL at hx
  rcases hd : decLine s.paths c with _ | y
  ·rw [hd] at hx
   cases hx
  ·rw [hd] at hx
   simp only at hx
   by_cases hk : y.kind = 4
   ·rw [if_pos hk] at hx
    cases hx
   ·rw [if_neg hk] at hx
    obtain rfl:=Option.some.inj hx
    exact ⟨rfl,hk⟩
 refine ⟨fun p hp=>(h2 p hp).1,fun p hp=>(h2 p hp).2,fun c l hp hv=>?_,fun c l hp hv=>?_,fun c l hp hv q hq hh=>?_⟩
 ·rw [h4 c l hp]
  rcases hx : liveL s.paths c with _ | x
  ·rfl
  ·obtain ⟨hd,_⟩:=hlive hx
   obtain ⟨d1,d2⟩:=decLine_some hd
   rw [line_under (hl x d1) d2] at hv
   cases hv
 ·rw [h4 c l hp]
  rcases hx : liveL s.paths c with _ | x
  ·have h0 : (seeStep s c (f c)).1 = 0:=by
    unfold liveL at hx
    unfold seeStep
    rcases hd : decLine s.paths c with _ | y
    ·rfl
    ·rw [hd] at hx
     simp only at hx ⊢
     by_cases hk : y.kind = 4
     ·rw [if_pos (.inr hk)]
     ·rw [if_neg hk] at hx
      cases hx
   show (if (none : Option Line).isSome = true then _ else 0) = if (seeStep s c (f c)).1 = 0 then 0 else 1
   rw [if_pos h0]
   rfl
  ·obtain ⟨hd,hk⟩:=hlive hx
   show (if (some x : Option Line).isSome = true then cntP up l else 0) = if (seeStep s c (f c)).1 = 0 then 0 else 1
   rw [Option.isSome_some,if_pos rfl,hu.cnt c l hp hv]
   have e : (seeStep s c (f c)).1 = 0 ↔ (f c).1 = 0:=by
    unfold seeStep
    rw [hd]
    simp only
    by_cases h0 : (f c).1 = 0
    ·rw [if_pos (.inl h0)]
     exact ⟨fun _=>h0,fun _=>rfl⟩
    ·rw [if_neg (fun h=>h.elim h0 hk)]
     refine ⟨fun h=>?_,fun h=>absurd h h0⟩
     by_cases k3 : (f c).1 = 3
     ·rw [if_pos k3] at h
      exact h
     ·rw [if_neg k3] at h
      by_cases x3 : x.kind = 3
      ·rw [if_pos x3] at h
       cases h
      ·rw [if_neg x3] at h
       simp only at h
       split at h <;> cases h
   by_cases h0 : (f c).1 = 0
   ·rw [if_pos h0,if_pos (e.2 h0)]
   ·rw [if_neg h0,if_neg (fun h=>h0 (e.1 h))]
 ·obtain ⟨x,hx,p,hpm,hph,hqk,hqs⟩:=h3 c l hp q hq hh
  obtain ⟨hd,hk⟩:=hlive hx
  obtain ⟨d1,d2⟩:=decLine_some hd
  have hlx:=hl x d1
  obtain ⟨pk,ps⟩:=hu.each c l hp hv p hpm hph
  have h0 : ¬ (f c).1 = 0:=fun h0=>by
   have:=cntP_pos hpm hph
   rw [hu.cnt c l hp hv,if_pos h0] at this
   omega
  show q.kind = (seeStep s c (f c)).1 ∧ fwd q.line c = some (seeStep s c (f c)).2
  rw [hqk,hqs]
  have hno : ¬ ((f c).1 = 0 ∨ x.kind = 4):=fun h=>h.elim h0 hk
  unfold seeStep kindP srcP
  rw [hd]
  simp only [if_neg hno]
  by_cases k3 : p.kind = 3
  ·have k3' : (f c).1 = 3:=by rw [← pk];exact k3
   simp only [if_pos k3,if_pos k3']
   exact ⟨k3'.symm,ps k3⟩
  ·have k3' : ¬ (f c).1 = 3:=by rw [← pk];exact k3
   simp only [if_neg k3,if_neg k3']
   by_cases x3 : x.kind = 3
   ·simp only [if_pos x3]
    refine ⟨trivial,?_⟩
    have hf : ∃ t,fwd x.rule c = some t:=by
     unfold fwd
     rw [if_pos (lineOk_import hlx x3).1,hp]
     simp only
     rw [matchS_path (lineOk_path hlx).1 hp] at d2
     rw [if_pos (show matchL x.rule.left l = true from d2)]
     exact ⟨_,rfl⟩
    obtain ⟨t,ht⟩:=hf
    rw [ht]
    rfl
   ·simp only [if_neg x3]
    refine ⟨?_,?_⟩
    ·unfold ownK
     rw [pk]
    ·obtain ⟨r,_,_,r3,r4⟩:=under_own hv s.name
     rw [hp] at r3
     obtain rfl:=Option.some.inj r3
     show some (pathStr (s.name :: r)) = some (47 :: 47 :: s.name ++ c.drop 6)
     rw [r4]
theorem pcs_mean {ss : List Strm} (h : Good ss) : ∀ i,i < ss.length → ∀ ps,pcs ss i = some ps → PcMean (strm ss i).name ps (fun c=>see ss i c):=by
 refine h.above_ind (P:=fun i=>∀ ps,pcs ss i = some ps → PcMean (strm ss i).name ps (fun c=>see ss i c)) (fun i hi hp ps hps=>?_) (fun i p hi hp ih ps hps=>?_)
 ·have hn:=(ownErr_zero (h.own i hi)).1
  unfold pcs at hps
  rw [h.none hp] at hps
  have:=step_mean hn (h.lines hi) root_mean (out:=ps) (by simpa [pcsL] using hps)
  have e : (fun c=>see ss i c) = fun c=>seeStep (strm ss i) c (1,[]):=funext fun c=>see_none h hp c
  rw [e]
  exact this
 ·have hn:=(ownErr_zero (h.own i hi)).1
  unfold pcs at hps
  rw [h.some hp] at hps
  unfold pcsL at hps
  rcases hup : pcsL ss (p :: above ss p) with _ | up
  ·rw [hup] at hps
   cases hps
  ·rw [hup] at hps
   simp only at hps
   have:=step_mean hn (h.lines hi) (ih up hup).up hps
   have e : (fun c=>see ss i c) = fun c=>seeStep (strm ss i) c (see ss p c):=funext fun c=>see_some h hp c
   rw [e]
   exact this
end Go.Proofs.YtdcdabbepnahnaaGreatDoor.Sy
set_option linter.unusedVariables false
set_option linter.unusedSimpArgs false
namespace Go.Proofs.YtdcdabbepnahnaaGreatDoor.Sy
def entOfP (p : Pc) : Option Ent:=(rightHs p.line p.region.hs).map fun ks=>⟨p.line.right,p.line.left,redL p.line.right ks⟩
def entsP : List Pc → Option (List Ent)
 |[]=>some []
 |p :: r=>match entOfP p with
  |none=>none
  |some e=>(entsP r).map (e :: ·)
def viewI (ss : List Strm) (i : Nat) : Option (List Ent):=match pcs ss i with
 |none=>none
 |some ps=>entsP ps
def pcEnt (p : Pc) : Ent:=⟨p.line.left,p.line.right,p.region.hs⟩
theorem pcEnt_reg {p : Pc} (h : PcOk p) : (pcEnt p).reg = p.region:=by
 show (⟨p.line.left,p.region.hs⟩ : Reg) = p.region
 rw [h.lb]
theorem pcEnt_rule {p : Pc} (h : PcOk p) : (pcEnt p).rule = p.line:=by
 show (⟨false,p.line.left,p.line.right⟩ : Rule) = p.line
 rcases hr : p.line with ⟨a,b,c⟩
 have:=h.ex
 rw [hr] at this
 rw [← this]
theorem entOfP_has {p : Pc} {e : Ent} (h : PcOk p) (he : entOfP p = some e) : e.left = p.line.right ∧ e.right = p.line.left ∧ (∀ s : List Str,s.all comp = true → hasG e.reg s = hasR' s (pcEnt p)) ∧ ∀ l : List Str,l.all comp = true → hasR' l e = hasG p.region l:=by
 obtain ⟨ks,hks,rfl⟩:=Option.map_eq_some_iff.1 he
 have tw : Twin p.line.left p.line.right:=ruleErr_twin.1 h.r
 have hr : ruleErr (pcEnt p).rule = 0:=by rw [pcEnt_rule h];exact h.r
 have hg : gErr (pcEnt p).reg = 0:=by rw [pcEnt_reg h];exact h.g
 have hrg : rightG (pcEnt p) = some ⟨p.line.right,ks⟩:=by
  unfold rightG
  rw [pcEnt_rule h]
  show (rightHs p.line p.region.hs).map _ = _
  rw [hks]
  rfl
 have hleft : ∀ s : List Str,s.all comp = true → hasG (⟨p.line.right,p.line.left,redL p.line.right ks⟩ : Ent).reg s = hasR' s (pcEnt p):=fun s hs=>by
  rw [hasR'_rG hr hg hrg hs]
  show hasL p.line.right (redL p.line.right ks) s = hasL p.line.right ks s
  exact redL_has tw.rp (rightHs_good hks).1 hs
 refine ⟨rfl,rfl,hleft,fun l hl=>?_⟩
 unfold hasR'
 show (matchL p.line.left l && hasG (⟨p.line.right,p.line.left,redL p.line.right ks⟩ : Ent).reg (trL p.line.left p.line.right l)) = hasG p.region l
 cases hm : matchL p.line.left l with
 |false=>
  rw [Bool.false_and]
  unfold hasG hasL
  rw [← h.lb,hm,Bool.false_and]
 |true=>
  obtain ⟨t1,t2,t3,t4⟩:=tr_twin tw hl hm
  rw [Bool.true_and,hleft _ t2]
  unfold hasR'
  show (matchL p.line.right (trL p.line.left p.line.right l) && hasG (pcEnt p).reg (trL p.line.right p.line.left (trL p.line.left p.line.right l))) = _
  rw [t1,t4,Bool.true_and,pcEnt_reg h]
theorem entsP_at : ∀ {ps : List Pc} {es : List Ent},entsP ps = some es → es.length = ps.length ∧ ∀ (k : Nat) p,ps[k]? = some p → ∃ e,es[k]? = some e ∧ entOfP p = some e
 |[],es,h=>by
  obtain rfl:=Option.some.inj h
  exact ⟨rfl,fun k p hk=>by simp at hk⟩
 |p :: r,es,h=>by
  unfold entsP at h
  rcases he : entOfP p with _ | e
  ·rw [he] at h
   cases h
  ·rw [he] at h
   obtain ⟨es',h1,rfl⟩:=Option.map_eq_some_iff.1 h
   obtain ⟨h2,h3⟩:=entsP_at h1
   refine ⟨by simp [h2],fun k q hk=>?_⟩
   cases k with
   |zero=>
    obtain rfl : p = q:=by simpa using hk
    exact ⟨e,rfl,he⟩
   |succ k=>exact h3 k q (by simpa using hk)
theorem entsP_find : ∀ {ps : List Pc} {es : List Ent} {P : Ent → Bool} {Q : Pc → Bool},entsP ps = some es → (∀ p ∈ ps,∀ e,entOfP p = some e → P e = Q p) → match ps.find? Q with
  |none=>es.find? P = none
  |some p=>∃ e,entOfP p = some e ∧ es.find? P = some e
 |[],es,P,Q,h,_=>by
  obtain rfl:=Option.some.inj h
  rfl
 |p :: r,es,P,Q,h,hPQ=>by
  unfold entsP at h
  rcases he : entOfP p with _ | e
  ·rw [he] at h
   cases h
  ·rw [he] at h
   obtain ⟨es',h1,rfl⟩:=Option.map_eq_some_iff.1 h
   have e1:=hPQ p List.mem_cons_self e he
   cases hq : Q p with
   |true=>
    rw [List.find?_cons_of_pos hq]
    exact ⟨e,he,List.find?_cons_of_pos (by rw [e1];exact hq)⟩
   |false=>
    rw [List.find?_cons_of_neg (by simp [hq])]
    have e2 : (e :: es').find? P = es'.find? P:=List.find?_cons_of_neg (by rw [e1,hq];simp)
    rw [e2]
    exact entsP_find h1 (fun q hq'=>hPQ q (List.mem_cons_of_mem _ hq'))
theorem view_mean {ss : List Strm} (h : Good ss) {i : Nat} (hi : i < ss.length) {es : List Ent} (hv : viewI ss i = some es) {c : Str} : bwdM es c = if underV c = true ∧ (see ss i c).1 ≠ 0 then some (see ss i c).2 else none:=by
 unfold viewI at hv
 rcases hp : pcs ss i with _ | ps
 ·rw [hp] at hv
  cases hv
 ·rw [hp] at hv
  simp only at hv
  have hm:=pcs_mean h i hi ps hp
  unfold bwdM
  rcases hc : pathOf c with _ | l
  ·rw [if_neg (fun hu=>by
    have h1:=hu.1
    unfold underV at h1
    rw [hc] at h1
    cases h1)]
  ·have hl:=(pathOf_some hc).2.1
   simp only
   have hf:=entsP_find (P:=hasR' l) (Q:=fun p=>hasG p.region l) hv (fun p hp e he=>(entOfP_has (hm.ok p hp) he).2.2.2 l hl)
   rcases hfd : ps.find? (fun p=>hasG p.region l) with _ | p
   ·rw [hfd] at hf
    have hf' : es.find? (hasR' l) = none:=hf
    rw [hf']
    have h0 : cntP ps l = 0:=by
     unfold cntP
     rw [List.countP_eq_zero]
     intro p hp
     have:=List.find?_eq_none.1 hfd p hp
     exact this
    rw [if_neg (fun hu=>by
     have:=hm.cnt c l hc hu.1
     rw [h0,if_neg hu.2] at this
     cases this)]
    rfl
   ·rw [hfd] at hf
    obtain ⟨e,he,hfe⟩:=hf
    have hpm:=List.mem_of_find?_eq_some hfd
    have hph:=List.find?_some hfd
    have hpos:=cntP_pos hpm hph
    have hu : underV c = true:=by
     rcases hu : underV c with _ | _
     ·rw [hm.far c l hc hu] at hpos
      omega
     ·rfl
    have hs : (see ss i c).1 ≠ 0:=fun h0=>by
     have:=hm.cnt c l hc hu
     rw [if_pos h0] at this
     omega
    rw [if_pos ⟨hu,hs⟩,hfe]
    obtain ⟨e1,e2,_,_⟩:=entOfP_has (hm.ok p hpm) he
    have hfw:=(hm.each c l hc hu p hpm hph).2
    obtain ⟨l',f1,f2,f3,f4,_⟩:=fwd_some hfw
    rw [hc] at f2
    obtain rfl:=Option.some.inj f2
    show some (pathStr (trL e.right e.left l)) = some (see ss i c).2
    rw [e1,e2,f4]
end Go.Proofs.YtdcdabbepnahnaaGreatDoor.Sy
set_option linter.unusedVariables false
set_option linter.unusedSimpArgs false
namespace Go.Proofs.YtdcdabbepnahnaaGreatDoor.Sy
def betP (par : Str) : List Pc → Option (List Ent)
 |[]=>some []
 |p :: r=>match entOfP p with
  |none=>none
  |some e=>(betP par r).map fun l=>if p.kind = 1 then (⟨e.left,storedP p.region.b par,e.hs⟩ : Ent) :: l else l
def betI (ss : List Strm) (i : Nat) : Option (List Ent):=match pcs ss i with
 |none=>none
 |some ps=>betP (strm ss i).parent ps
theorem swap_match {a b : Str} {t : List Str} {re : Bool} (ha : isStar a = false) (hb : isStar b = false) {r : List Str} : matchL ⟨a :: t,re⟩ (a :: r) = matchL ⟨b :: t,re⟩ (b :: r):=by
 rw [matchL_mR,matchL_mR]
 have e1 : mtch a a = true:=by simp [mtch,ha]
 have e2 : mtch b b = true:=by simp [mtch,hb]
 show (reaches ⟨a :: t,re⟩ (r.length + 1) && (mtch a a && mR t r)) = (reaches ⟨b :: t,re⟩ (r.length + 1) && (mtch b b && mR t r))
 rw [e1,e2]
 rfl
theorem swap_head {a : Str} {t : List Str} {re : Bool} (ha : isStar a = false) {l : List Str} (h : matchL ⟨a :: t,re⟩ l = true) : ∃ r,l = a :: r:=by
 rw [matchL_mR,Bool.and_eq_true] at h
 rcases l with _ | ⟨x,r⟩
 ·have:=h.2
  simp [mR] at this
 ·have h2:=h.2
  unfold mR at h2
  rw [Bool.and_eq_true] at h2
  have h3:=h2.1
  unfold mtch at h3
  rw [ha] at h3
  simp only [Bool.false_eq_true,if_false,beq_iff_eq] at h3
  exact ⟨r,by rw [h3]⟩
theorem swap_tr {a b : Str} {t : List Str} {re : Bool} (ha : isStar a = false) (hb : isStar b = false) {r : List Str} (h : matchL ⟨a :: t,re⟩ (a :: r) = true) : trL ⟨a :: t,re⟩ ⟨b :: t,re⟩ (a :: r) = b :: r:=by
 rw [matchL_mR,Bool.and_eq_true] at h
 have hle:=reaches_le h.1
 have hr:=h.1
 have hmr:=h.2
 unfold mR at hmr
 rw [Bool.and_eq_true] at hmr
 rw [trL_eq hle]
 simp only [capsR,ha,Bool.false_eq_true,if_false,fillR,hb,List.length_cons,List.drop_succ_cons,List.cons_append]
 rw [fill_caps _ _ hmr.2]
 congr 1
 cases re with
 |true=>simp only [if_true];exact List.take_append_drop _ _
 |false=>
  simp only [Bool.false_eq_true,if_false,List.append_nil]
  refine List.take_of_length_le ?_
  unfold reaches at hr
  simp at hr
  omega
theorem storedP_cons {p : Pat} {t : List Str} (ht : p.parts = viewN :: t) (n : Str) : storedP p n = ⟨n :: t,p.rest⟩:=by
 unfold storedP
 rw [ht]
 rfl
theorem own_has {p : Pc} {e : Ent} {name : Str} (h : PcOk p) (hn : comp name = true) (ho : p.line.right = storedP p.region.b name) (he : entOfP p = some e) {s : List Str} (hs : s.all comp = true) : hasG e.reg s = true ↔ ∃ r,s = name :: r ∧ hasG p.region (viewN :: r) = true:=by
 obtain ⟨t,ht⟩:=head_cons h.v
 have hb : p.region.b = ⟨viewN :: t,p.region.b.rest⟩:=by rw [← ht]
 have hst:=storedP_cons ht name
 have hv : isStar viewN = false:=rfl
 have hns:=comp_noStar hn
 rw [(entOfP_has h he).2.2.1 s hs]
 unfold hasR'
 show (matchL p.line.right s && hasG (pcEnt p).reg (trL p.line.right p.line.left s)) = true ↔ _
 rw [pcEnt_reg h,ho,h.lb,hst]
 constructor
 ·intro hh
  rw [Bool.and_eq_true] at hh
  obtain ⟨r,rfl⟩:=swap_head hns hh.1
  refine ⟨r,rfl,?_⟩
  have h2:=hh.2
  rw [show trL ⟨name :: t,p.region.b.rest⟩ p.region.b (name :: r) = viewN :: r by rw [hb];exact swap_tr hns hv hh.1] at h2
  exact h2
 ·rintro ⟨r,rfl,hh⟩
  have hm : matchL p.region.b (viewN :: r) = true:=hasG_left' hh
  have hm2 : matchL ⟨name :: t,p.region.b.rest⟩ (name :: r) = true:=by
   rw [hb] at hm
   rw [swap_match hns hv]
   exact hm
  rw [hm2,show trL ⟨name :: t,p.region.b.rest⟩ p.region.b (name :: r) = viewN :: r by rw [hb];exact swap_tr hns hv hm2,hh]
  rfl
theorem betP_find {par : Str} : ∀ {ps : List Pc} {es : List Ent} {P : Ent → Bool} {Q : Pc → Bool},betP par ps = some es → (∀ p ∈ ps,∀ e,entOfP p = some e → p.kind = 1 → P ⟨e.left,storedP p.region.b par,e.hs⟩ = Q p) → match ps.find? (fun p=>p.kind == 1 && Q p) with
  |none=>es.find? P = none
  |some p=>∃ e,entOfP p = some e ∧ es.find? P = some ⟨e.left,storedP p.region.b par,e.hs⟩
 |[],es,P,Q,h,_=>by
  obtain rfl:=Option.some.inj h
  rfl
 |p :: r,es,P,Q,h,hPQ=>by
  unfold betP at h
  rcases he : entOfP p with _ | e
  ·rw [he] at h
   cases h
  ·rw [he] at h
   obtain ⟨es',h1,rfl⟩:=Option.map_eq_some_iff.1 h
   have ih:=betP_find (P:=P) (Q:=Q) h1 (fun q hq'=>hPQ q (List.mem_cons_of_mem _ hq'))
   by_cases hk : p.kind = 1
   ·rw [if_pos hk]
    have e1:=hPQ p List.mem_cons_self e he hk
    cases hq : Q p with
    |true=>
     rw [List.find?_cons_of_pos (by simp [hk,hq])]
     exact ⟨e,he,List.find?_cons_of_pos (by rw [e1];exact hq)⟩
    |false=>
     rw [List.find?_cons_of_neg (by simp [hq])]
     have e2 : ((⟨e.left,storedP p.region.b par,e.hs⟩ : Ent) :: es').find? P = es'.find? P:=List.find?_cons_of_neg (by rw [e1,hq];simp)
     rw [e2]
     exact ih
   ·rw [if_neg hk,List.find?_cons_of_neg (by simp [hk])]
    exact ih
theorem step_share {s : Strm} {c : Str} {up : Int × Str} (h : (seeStep s c up).1 = 1) : up.1 = 1:=by
 unfold seeStep at h
 rcases hd : decLine s.paths c with _ | x
 ·rw [hd] at h
  cases h
 ·rw [hd] at h
  simp only at h
  split at h
  ·cases h
  ·split at h
   ·exact h
   ·split at h
    ·cases h
    ·simp only at h
     split at h
     ·rename_i hk
      exact hk.2
     ·cases h
theorem parent_name {ss : List Strm} {i p : Nat} (hp : parentI ss i = some p) : (strm ss p).name = (strm ss i).parent:=by
 unfold parentI at hp
 split at hp
 ·cases hp
 ·obtain ⟨s,h1,h2,_⟩:=findI_some hp
  rw [strm_at h1]
  exact h2
theorem bet_share {ss : List Strm} (h : Good ss) {i p : Nat} (hi : i < ss.length) (hp : parentI ss i = some p) {es : List Ent} (hb : betI ss i = some es) {c : Str} (hu : underV c = true) (hs : (see ss i c).1 = 1) : (see ss p c).1 = 1 ∧ fwdM es (see ss i c).2 = some (see ss p c).2:=by
 have hpl:=parentI_lt hp
 have hup : (see ss p c).1 = 1:=by
  rw [see_some h hp] at hs
  exact step_share hs
 refine ⟨hup,?_⟩
 unfold betI at hb
 rcases hps : pcs ss i with _ | ps
 ·rw [hps] at hb
  cases hb
 ·rw [hps] at hb
  simp only at hb
  have hm:=pcs_mean h i hi ps hps
  have hn:=(ownErr_zero (h.own i hi)).1
  have e1 : (see ss i c).2 = 47 :: 47 :: (strm ss i).name ++ c.drop 6:=by
   rcases see_src h hi (c:=c) (by rw [hs];decide) with ⟨_,h1⟩ | ⟨h1,_⟩
   ·exact h1
   ·rw [hs] at h1
    cases h1
  have e2 : (see ss p c).2 = 47 :: 47 :: (strm ss p).name ++ c.drop 6:=by
   rcases see_src h hpl (c:=c) (by rw [hup];decide) with ⟨_,h1⟩ | ⟨h1,_⟩
   ·exact h1
   ·rw [hup] at h1
    cases h1
  obtain ⟨r,r1,r2,r3,r4⟩:=under_own hu (strm ss i).name
  obtain ⟨r',_,_,r3',r4'⟩:=under_own hu (strm ss p).name
  rw [r3] at r3'
  obtain rfl : r = r':=by simpa using r3'
  have hcl : ((strm ss i).name :: r).all comp = true:=by rw [List.all_cons,hn,r2];rfl
  have hlen : 2 ≤ ((strm ss i).name :: r).length:=by
   have:=List.length_pos_iff.2 r1
   simp
   omega
  have hq0 : cntP ps (viewN :: r) = 1:=by
   have:=hm.cnt c _ r3 hu
   rw [if_neg (by rw [hs];decide)] at this
   exact this
  rw [e1,e2,r4,r4']
  unfold fwdM
  rw [pathOf_str hlen hcl]
  simp only
  have hf:=betP_find (P:=fun x=>hasG x.reg ((strm ss i).name :: r)) (Q:=fun p=>hasG p.region (viewN :: r)) hb (fun q hq e he hk=>by
   have ho:=hm.own q hq (by rw [hk];decide)
   have hh:=own_has (hm.ok q hq) hn ho he hcl
   have e3 : (⟨e.left,storedP q.region.b (strm ss i).parent,e.hs⟩ : Ent).reg = e.reg:=rfl
   rw [e3]
   cases hv : hasG q.region (viewN :: r) with
   |true=>exact hh.2 ⟨r,rfl,hv⟩
   |false=>
    rcases hx : hasG e.reg ((strm ss i).name :: r) with _ | _
    ·rfl
    ·obtain ⟨r2',h2,h3⟩:=hh.1 hx
     obtain rfl : r = r2':=by simpa using h2
     rw [hv] at h3
     cases h3)
  rcases hfd : ps.find? (fun p=>p.kind == 1 && hasG p.region (viewN :: r)) with _ | q
  ·exfalso
   have : 0 < cntP ps (viewN :: r):=by omega
   obtain ⟨q,hq,hqh⟩:=List.countP_pos_iff.1 this
   have hk:=(hm.each c _ r3 hu q hq hqh).1
   have:=List.find?_eq_none.1 hfd q hq
   rw [hqh,hk] at this
   simp [hs] at this
  ·rw [hfd] at hf
   obtain ⟨e,he,hfe⟩:=hf
   have hqm:=List.mem_of_find?_eq_some hfd
   have hqp:=List.find?_some hfd
   simp only [Bool.and_eq_true,beq_iff_eq] at hqp
   have hok:=hm.ok q hqm
   have ho:=hm.own q hqm (by rw [hqp.1];decide)
   obtain ⟨t,ht⟩:=head_cons hok.v
   rw [hfe,Option.map_some]
   have hmv : matchL q.region.b (viewN :: r) = true:=hasG_left' hqp.2
   have hb' : q.region.b = ⟨viewN :: t,q.region.b.rest⟩:=by rw [← ht]
   have hpn:=(ownErr_zero (h.own p hpl)).1
   have e4 : trL e.left (storedP q.region.b (strm ss i).parent) ((strm ss i).name :: r) = (strm ss p).name :: r:=by
    rw [(entOfP_has hok he).1,ho,storedP_cons ht,storedP_cons ht,← parent_name hp]
    refine swap_tr (comp_noStar hn) (comp_noStar hpn) ?_
    rw [swap_match (comp_noStar hn) (show isStar viewN = false from rfl),← hb']
    exact hmv
   rw [e4]
theorem bet_other {ss : List Strm} (h : Good ss) {i : Nat} (hi : i < ss.length) {es : List Ent} (hb : betI ss i = some es) {c : Str} (hpre : c = 47 :: 47 :: viewN ++ c.drop 6) (hs : underV c = true → (see ss i c).1 ≠ 1) : fwdM es (47 :: 47 :: (strm ss i).name ++ c.drop 6) = none:=by
 unfold betI at hb
 rcases hps : pcs ss i with _ | ps
 ·rw [hps] at hb
  cases hb
 ·rw [hps] at hb
  simp only at hb
  have hm:=pcs_mean h i hi ps hps
  have hn:=(ownErr_zero (h.own i hi)).1
  unfold fwdM
  rcases hd : pathOf (47 :: 47 :: (strm ss i).name ++ c.drop 6) with _ | l2
  ·rfl
  ·simp only
   obtain ⟨g1,g2,g3⟩:=pathOf_some hd
   have hf:=betP_find (P:=fun x=>hasG x.reg l2) (Q:=fun p=>(l2 == (strm ss i).name :: l2.tail) && hasG p.region (viewN :: l2.tail)) hb (fun q hq e he hk=>by
    have ho:=hm.own q hq (by rw [hk];decide)
    have hh:=own_has (hm.ok q hq) hn ho he g2
    have e3 : (⟨e.left,storedP q.region.b (strm ss i).parent,e.hs⟩ : Ent).reg = e.reg:=rfl
    rw [e3,Bool.eq_iff_iff,hh,Bool.and_eq_true,beq_iff_eq]
    constructor
    ·rintro ⟨r,rfl,h5⟩
     exact ⟨rfl,h5⟩
    ·rintro ⟨h5,h6⟩
     exact ⟨_,h5,h6⟩)
   rcases hfd : ps.find? (fun p=>p.kind == 1 && ((l2 == (strm ss i).name :: l2.tail) && hasG p.region (viewN :: l2.tail))) with _ | q
   ·rw [hfd] at hf
    have hf' : es.find? (fun x=>hasG x.reg l2) = none:=hf
    rw [hf']
    rfl
   ·exfalso
    have hqm:=List.mem_of_find?_eq_some hfd
    have hqp:=List.find?_some hfd
    simp only [Bool.and_eq_true,beq_iff_eq] at hqp
    obtain ⟨hk,hl2,hh⟩:=hqp
    obtain ⟨r,hr9⟩ : ∃ r,l2.tail = r:=⟨_,rfl⟩
    rw [hr9] at hl2 hh
    subst hl2
    rw [List.all_cons,Bool.and_eq_true] at g2
    have hr0 : r ≠ []:=fun e=>by rw [e] at g1;simp at g1
    have hcl : (viewN :: r).all comp = true:=by rw [List.all_cons,g2.2];rfl
    have hlen : 2 ≤ (viewN :: r).length:=by
     have:=List.length_pos_iff.2 hr0
     simp
     omega
    have hj : ∀ n : Str,pathStr (n :: r) = 47 :: 47 :: n ++ (47 :: Lib.join r [47]):=fun n=>by
     obtain ⟨a,t,rfl⟩:=List.exists_cons_of_ne_nil hr0
     simp [pathStr,Lib.join]
    have hdrop : c.drop 6 = 47 :: Lib.join r [47]:=by
     rw [hj] at g3
     simpa using g3
    have hc : c = pathStr (viewN :: r):=by rw [hj,← hdrop];exact hpre
    have hpc : pathOf c = some (viewN :: r):=by rw [hc];exact pathOf_str hlen hcl
    have hu : underV c = true:=by
     unfold underV
     rw [hpc]
     rfl
    have:=(hm.each c _ hpc hu q hqm hh).1
    rw [hk] at this
    exact hs hu this.symm
end Go.Proofs.YtdcdabbepnahnaaGreatDoor.Sy
