/- The inverse of a mapping is a mapping and means the other way round. No program in sight. -/
import Derived.Test.YtdcdabbepnahnaaGreatDoorZRowG
import Derived.Test.YtdcdabbepnahnaaGreatDoorZEntM
set_option linter.unusedVariables false
set_option linter.unusedSimpArgs false
namespace Go.Proofs.YtdcdabbepnahnaaGreatDoor.Sy
theorem free_path {b : Pat} {hs : List Pat} {n : Nat} (hb : allOk b) (hr : reaches b n = true) (hlen : hs.length ≤ 64) (hf : full b hs n = false) : hasL b hs (comps b hs n n) = true ∧ (comps b hs n n).length = n ∧ (comps b hs n n).all comp = true:=by
 have hc:=comps_comp hb hs n n
 have hl:=comps_length b hs n n
 refine ⟨?_,hl,hc⟩
 rw [hasL,Bool.and_eq_true]
 constructor
 ·refine matchL_true.2 ⟨by rw [hl];exact hr,fun j hj=>?_⟩
  have hjn:=Nat.lt_of_lt_of_le hj (reaches_le hr)
  rw [comps_at hjn]
  have:=pick_mtch (b:=b) hs n (comps b hs n j)
  rw [comps_length] at this
  exact this
 ·simp only [Bool.not_eq_true',List.any_eq_false]
  intro q hq hm
  have hI:=inv_comps hf hlen n q hq
  rw [hl] at hI
  have ho:=matchL_open (p:=q) hc
  rw [hl] at ho
  have:=hI (by rw [ho];exact hm)
  have ht : covers q b n n = true:=covers_true.2 fun j h1 h2=>by omega
  rw [ht] at this
  cases this
theorem full_any (b : Pat) (hs : List Pat) (n : Nat) : full b hs n = hs.any fun h=>full b [h] n:=by
 simp [full]
theorem full_one {b h : Pat} {n : Nat} (hb : allOk b) (hr : reaches b n = true) : full b [h] n = true ↔ ∀ l : List Str,l.length = n → l.all comp = true → matchL b l = true → matchL h l = true:=by
 constructor
 ·intro hf l hl hc hm
  have:=full_match (hs:=[h]) hc hm (by rw [hl];exact hf)
  rw [hasL,hm] at this
  simpa using this
 ·intro H
  rcases hf : full b [h] n with _ | _
  ·obtain ⟨h1,h2,h3⟩:=free_path hb hr (by simp) hf
   rw [hasL,Bool.and_eq_true] at h1
   have:=H _ h2 h3 h1.1
   simp [this] at h1
  ·rfl
theorem some_path {b : Pat} {n : Nat} (hb : allOk b) (hr : reaches b n = true) : ∃ l : List Str,l.length = n ∧ l.all comp = true ∧ matchL b l = true:=by
 obtain ⟨h1,h2,h3⟩:=free_path (hs:=[]) hb hr (by simp) (by simp [full])
 rw [hasL,Bool.and_eq_true] at h1
 exact ⟨_,h2,h3,h1.1⟩
theorem below_fullF {b : Pat} {hs : List Pat} {m : Nat} (h0 : 0 < b.parts.length) (hr : reaches b m = true) (h : leastLen b hs = 0 ∨ m < leastLen b hs) : full b hs m = true:=by
 obtain ⟨h1,h2⟩:=reaches_first hr
 rcases Nat.lt_or_ge (lastLen b hs) m with hbig | hsm
 ·have hrest : b.rest = true:=by
   rcases hre : b.rest with _ | _
   ·have h3:=h2 hre
    unfold lastLen at hbig
    unfold firstLen at h3
    rw [hre] at hbig h3
    simp at hbig h3
    omega
   ·rfl
  have hl0 : lastLen b hs = hs.foldl (fun m h=>max m (h.parts.length + 1)) (b.parts.length + 1):=by rw [lastLen,if_pos hrest]
  have hf0 : firstLen b = b.parts.length + 1:=by rw [firstLen,if_pos hrest]
  obtain ⟨g1,g2⟩:=last_max (hs:=hs) (b.parts.length + 1)
  rw [← hl0] at g1 g2
  have hz : leastLen b hs = 0:=by
   rcases h with h | h
   ·exact h
   ·have:=(seek_in (b:=b) (hs:=hs) (lastLen b hs + 1 - firstLen b) (firstLen b) (by unfold leastLen at h;omega)).2
    unfold leastLen at h
    omega
  have hfl : full b hs (lastLen b hs) = true:=seek_lt (lastLen b hs + 1 - firstLen b) (firstLen b) (lastLen b hs) (by omega) (by omega) (by omega) (.inl hz)
  simp only [full,List.any_eq_true,Bool.and_eq_true] at hfl
  obtain ⟨q,hm,hrq,hcov⟩:=hfl
  have hq:=g2 q hm
  have hqr : q.rest = true:=by
   rcases hre : q.rest with _ | _
   ·unfold reaches at hrq
    rw [hre] at hrq
    simp at hrq
    omega
   ·rfl
  simp only [full,List.any_eq_true,Bool.and_eq_true]
  exact ⟨q,hm,by rw [reaches,hqr];simp;omega,covers_true.2 fun j j1 j2 j3=>covers_true.1 hcov j j1 (by omega) j3⟩
 ·exact seek_lt _ (firstLen b) m (by unfold firstLen;split <;> omega) h1 (by omega) h
theorem zero_iff {b : Pat} {hs : List Pat} (h0 : 0 < b.parts.length) : leastLen b hs = 0 ↔ ∀ n,reaches b n = true → full b hs n = true:=by
 constructor
 ·exact fun h n hr=>below_fullF h0 hr (.inl h)
 ·intro H
  apply Classical.byContradiction
  intro hne
  have h1:=leastLen_full hne
  rw [H _ (least_reaches hne)] at h1
  cases h1
theorem full_app (b : Pat) (hs ks : List Pat) (n : Nat) : full b (hs ++ ks) n = (full b hs n || full b ks n):=by
 simp [full,List.any_append]
end Go.Proofs.YtdcdabbepnahnaaGreatDoor.Sy
set_option linter.unusedVariables false
set_option linter.unusedSimpArgs false
namespace Go.Proofs.YtdcdabbepnahnaaGreatDoor.Sy
def rightHs (r : Rule) : List Pat → Option (List Pat)
 |[]=>some []
 |h :: hs=>if (narL r h).2 ≠ 0 then none else (rightHs r hs).map fun l=>((narL r h).1.map (·.right)).toList ++ l
def rightG (x : Ent) : Option Reg:=(rightHs x.rule x.hs).map fun hs=>⟨x.right,hs⟩
def rG (x : Ent) : Reg:=(rightG x).getD ⟨x.right,[]⟩
def entryOk (x : Ent) : Bool:=ruleErr x.rule == 0 && gErr x.reg == 0
def commonG (a b : Reg) : Bool:=match meetP a.b b.b with
 |none=>false
 |some m=>leastLen m (a.hs ++ b.hs) != 0
def clashE (x y : Ent) : Bool:=commonG x.reg y.reg || commonG (rG x) (rG y)
def clashAt (m : List Ent) (i : Nat) : Bool:=(List.range i).any fun j=>clashE (m.getD i default) (m.getD j default)
def mapE (m : List Ent) : Nat × Int:=match m.findIdx? (fun x=>!entryOk x) with
 |some i=>(i,70)
 |none=>if 32 < m.length then (0,72) else if m.any (fun x=>(rightG x).isNone) then (0,72) else
  match (List.range m.length).find? (clashAt m) with
  |some i=>(i,71)
  |none=>(0,0)

theorem entryOk_iff {x : Ent} : entryOk x = true ↔ ruleErr x.rule = 0 ∧ gErr x.reg = 0:=by simp [entryOk]
theorem rightHs_good {r : Rule} : ∀ {hs ks : List Pat},rightHs r hs = some ks → (∀ k ∈ ks,patErr k = 0) ∧ ks.length ≤ hs.length
 |[],ks,h=>by
  obtain rfl:=Option.some.inj h
  exact ⟨fun k hk=>(by cases hk),Nat.le_refl _⟩
 |x :: hs,ks,h=>by
  unfold rightHs at h
  split at h
  ·cases h
  ·obtain ⟨l,hl,rfl⟩:=Option.map_eq_some_iff.1 h
   obtain ⟨h1,h2⟩:=rightHs_good hl
   refine ⟨fun k hk=>?_,?_⟩
   ·rcases List.mem_append.1 hk with hk | hk
    ·rw [Option.mem_toList] at hk
     obtain ⟨n,hn,rfl⟩:=Option.map_eq_some_iff.1 hk
     exact (ruleErr_twin.1 (narL_good hn)).rp
    ·exact h1 k hk
   ·have : ((narL r x).1.map (·.right)).toList.length ≤ 1:=by
     rcases (narL r x).1 with _ | n <;> simp
    rw [List.length_append,List.length_cons]
    omega
theorem rightHs_app {r : Rule} : ∀ (hs ks : List Pat),rightHs r (hs ++ ks) = match rightHs r hs with
  |none=>none
  |some l=>(rightHs r ks).map (l ++ ·)
 |[],ks=>by
  simp only [List.nil_append,rightHs]
  simp
 |x :: hs,ks=>by
  have ih:=rightHs_app (r:=r) hs ks
  simp only [List.cons_append,rightHs]
  by_cases h : (narL r x).2 ≠ 0
  ·rw [if_pos h,if_pos h]
  ·rw [if_neg h,if_neg h,ih]
   rcases rightHs r hs with _ | l
   ·rfl
   ·simp only [Option.map_some]
    rcases rightHs r ks with _ | k
    ·rfl
    ·simp
theorem rightHs_none {r : Rule} {hs : List Pat} (h : rightHs r hs = none) (ks : List Pat) : rightHs r (hs ++ ks) = none:=by
 rw [rightHs_app,h]
theorem commonG_comm (a b : Reg) : commonG a b = commonG b a:=by
 unfold commonG
 rw [meetP_comm]
 rcases hm : meetP b.b a.b with _ | m
 ·rfl
 ·obtain ⟨_,_,_,h4⟩:=meetP_some hm
  have h0 : 0 < m.parts.length:=(patErr_form h4).1
  have : leastLen m (a.hs ++ b.hs) = 0 ↔ leastLen m (b.hs ++ a.hs) = 0:=by
   rw [zero_iff h0,zero_iff h0]
   constructor <;> intro H n hr <;> have:=H n hr <;> rw [full_app,Bool.or_comm] at this <;> rw [full_app] <;> exact this
  simp only
  rw [Bool.eq_iff_iff,bne_iff_ne,bne_iff_ne]
  exact not_congr this
structure Mapping (m : List Ent) : Prop where
 good : ∀ x ∈ m,ruleErr x.rule = 0 ∧ gErr x.reg = 0
 few : m.length ≤ 32
 right : ∀ x ∈ m,∃ g,rightG x = some g
 apart : ∀ (i j : Nat) x y,m[i]? = some x → m[j]? = some y → j < i → clashE x y = false
theorem getD_of {α : Type} [Inhabited α] {l : List α} {i : Nat} {x : α} (h : l[i]? = some x) : l.getD i default = x:=by
 rw [List.getD_eq_getElem?_getD,h]
 rfl
theorem mapE_zero {m : List Ent} (h : (mapE m).2 = 0) : Mapping m ∧ mapE m = (0,0):=by
 unfold mapE at h ⊢
 rcases h1 : m.findIdx? (fun x=>!entryOk x) with _ | i
 ·rw [h1] at h
  simp only at h ⊢
  by_cases h2 : 32 < m.length
  ·rw [if_pos h2] at h;cases h
  ·rw [if_neg h2] at h ⊢
   by_cases h3 : m.any (fun x=>(rightG x).isNone) = true
   ·rw [if_pos h3] at h;cases h
   ·rw [if_neg h3] at h ⊢
    rcases h4 : (List.range m.length).find? (clashAt m) with _ | i
    ·refine ⟨⟨fun x hx=>?_,by omega,fun x hx=>?_,fun i j x y hi hj hji=>?_⟩,rfl⟩
     ·have:=List.findIdx?_eq_none_iff.1 h1 x hx
      exact entryOk_iff.1 (by simpa using this)
     ·rw [Bool.not_eq_true,List.any_eq_false] at h3
      have:=h3 x hx
      rcases h5 : rightG x with _ | g
      ·rw [h5] at this
       simp at this
      ·exact ⟨g,rfl⟩
     ·have:=List.find?_eq_none.1 h4 i (List.mem_range.2 (List.getElem?_eq_some_iff.1 hi).1)
      rw [Bool.not_eq_true,clashAt,List.any_eq_false] at this
      have:=this j (List.mem_range.2 hji)
      rw [getD_of hi,getD_of hj] at this
      simpa using this
    ·rw [h4] at h
     cases h
 ·rw [h1] at h
  cases h
end Go.Proofs.YtdcdabbepnahnaaGreatDoor.Sy
set_option linter.unusedVariables false
set_option linter.unusedSimpArgs false
namespace Go.Proofs.YtdcdabbepnahnaaGreatDoor.Sy

end Go.Proofs.YtdcdabbepnahnaaGreatDoor.Sy
set_option linter.unusedVariables false
set_option linter.unusedSimpArgs false
namespace Go.Proofs.YtdcdabbepnahnaaGreatDoor.Sy
def Both (p q : Pat) (n : Nat) (l : List Str) : Prop:=l.length = n ∧ l.all comp = true ∧ matchL p l = true ∧ matchL q l = true
def Cov (hs : List Pat) (P : List Str → Prop) : Prop:=∃ h ∈ hs,∀ l,P l → matchL h l = true
theorem Cov.app {hs ks : List Pat} {P : List Str → Prop} : Cov (hs ++ ks) P ↔ Cov hs P ∨ Cov ks P:=by
 constructor
 ·rintro ⟨h,hm,hc⟩
  rcases List.mem_append.1 hm with hm | hm
  ·exact .inl ⟨h,hm,hc⟩
  ·exact .inr ⟨h,hm,hc⟩
 ·rintro (⟨h,hm,hc⟩ | ⟨h,hm,hc⟩)
  ·exact ⟨h,List.mem_append_left _ hm,hc⟩
  ·exact ⟨h,List.mem_append_right _ hm,hc⟩
theorem Cov.mono {hs ks : List Pat} {P Q : List Str → Prop} (h : Cov hs P) (h1 : ∀ x ∈ hs,x ∈ ks) (h2 : ∀ l,Q l → P l) : Cov ks Q:=by
 obtain ⟨x,hx,hc⟩:=h
 exact ⟨x,h1 x hx,fun l hl=>hc l (h2 l hl)⟩
theorem Cov.one {hs : List Pat} {l : List Str} : Cov hs (fun k=>k = l) ↔ (hs.any fun h=>matchL h l) = true:=by
 rw [List.any_eq_true]
 constructor
 ·rintro ⟨h,hm,hc⟩
  exact ⟨h,hm,hc l rfl⟩
 ·rintro ⟨h,hm,hc⟩
  exact ⟨h,hm,fun k hk=>hk ▸ hc⟩
theorem commonG_false {a b : Reg} (ha : patErr a.b = 0) (hb : patErr b.b = 0) : commonG a b = false ↔ ∀ n,(∃ l,Both a.b b.b n l) → Cov (a.hs ++ b.hs) (Both a.b b.b n):=by
 unfold commonG
 rcases hm : meetP a.b b.b with _ | m
 ·have h1 : meetL a.b b.b = none:=by
   unfold meetP at hm
   rw [if_pos ⟨ha,hb⟩] at hm
   exact hm
  simp only [true_iff]
  rintro n ⟨l,_,hc,h2,h3⟩
  have:=meetL_nomatch h1 hc
  rw [h2,h3] at this
  cases this
 ·obtain ⟨g1,g2,g3,h4⟩:=meetP_some hm
  have h0 : 0 < m.parts.length:=(patErr_form h4).1
  have hok:=allOk_of h4
  have hml:=fun (l : List Str) (hc : l.all comp = true)=>meetL_match (allOk_of g1) (allOk_of g2) g3 hc
  simp only
  rw [bne_eq_false_iff_eq,zero_iff h0]
  constructor
  ·rintro H n ⟨l0,e0,hc0,h2,h3⟩
   have hm0 : matchL m l0 = true:=by rw [hml l0 hc0,h2,h3];rfl
   have hr:=(matchL_true.1 hm0).1
   rw [e0] at hr
   have hf:=H n hr
   rw [full_any,List.any_eq_true] at hf
   obtain ⟨h,hh,hf⟩:=hf
   exact ⟨h,hh,fun l ⟨e,hc,k2,k3⟩=>(full_one hok hr).1 hf l e hc (by rw [hml l hc,k2,k3];rfl)⟩
  ·intro H n hr
   obtain ⟨l0,e0,hc0,hm0⟩:=some_path hok hr
   have hm0':=hm0
   rw [hml l0 hc0,Bool.and_eq_true] at hm0'
   obtain ⟨h,hh,hf⟩:=H n ⟨l0,e0,hc0,hm0'⟩
   rw [full_any,List.any_eq_true]
   refine ⟨h,hh,(full_one hok hr).2 fun l e hc hl=>?_⟩
   rw [hml l hc,Bool.and_eq_true] at hl
   exact hf l ⟨e,hc,hl⟩
theorem common_none {a b : Reg} (ha : patErr a.b = 0) (hb : patErr b.b = 0) (h : commonG a b = false) {l : List Str} (hc : l.all comp = true) : (hasG a l && hasG b l) = false:=by
 rcases hx : hasG a l && hasG b l with _ | _
 ·rfl
 ·exfalso
  rw [Bool.and_eq_true] at hx
  obtain ⟨h1,h2⟩:=hx
  unfold hasG hasL at h1 h2
  rw [Bool.and_eq_true] at h1 h2
  obtain ⟨k,hk,hm⟩:=(commonG_false ha hb).1 h l.length ⟨l,rfl,hc,h1.1,h2.1⟩
  have hkl:=hm l ⟨rfl,hc,h1.1,h2.1⟩
  rcases List.mem_append.1 hk with hk | hk
  ·have:=h1.2
   simp only [Bool.not_eq_true',List.any_eq_false] at this
   exact this k hk hkl
  ·have:=h2.2
   simp only [Bool.not_eq_true',List.any_eq_false] at this
   exact this k hk hkl
theorem cov_red {x : Pat} {ps : List Pat} {P : List Str → Prop} (hx : patErr x = 0) (hps : ∀ p ∈ ps,patErr p = 0) (hP : ∀ l,P l → l.all comp = true ∧ matchL x l = true) (h0 : ∃ l,P l) : Cov (redL x ps) P ↔ Cov ps P:=by
 obtain ⟨l0,hl0⟩:=h0
 constructor
 ·rintro ⟨k,hk,hf⟩
  obtain ⟨p,hp,hmt⟩:=meetsL_mem.1 (redL_mem.1 hk).1
  obtain ⟨g1,g2,g3,_⟩:=meetP_some hmt
  refine ⟨p,hp,fun l hl=>?_⟩
  have h1:=hf l hl
  rw [meetL_match (allOk_of g1) (allOk_of g2) g3 (hP l hl).1,Bool.and_eq_true] at h1
  exact h1.2
 ·rintro ⟨p,hp,hf⟩
  rcases hmt : meetP x p with _ | k
  ·have h1 : meetL x p = none:=by
    unfold meetP at hmt
    rw [if_pos ⟨hx,hps p hp⟩] at hmt
    exact hmt
   have h2:=meetL_nomatch h1 (hP l0 hl0).1
   rw [(hP l0 hl0).2,hf l0 hl0] at h2
   cases h2
  ·obtain ⟨g1,g2,g3,g4⟩:=meetP_some hmt
   obtain ⟨k',hk',hin'⟩:=redL_above (meetsL_mem.2 ⟨p,hp,hmt⟩)
   refine ⟨k',hk',fun l hl=>?_⟩
   refine insideP_match (allOk_of g4) hin' (hP l hl).1 ?_
   rw [meetL_match (allOk_of g1) (allOk_of g2) g3 (hP l hl).1,(hP l hl).2,hf l hl]
   rfl

/-! ### the right side -/
theorem rightHs_mem {r : Rule} : ∀ {hs ks : List Pat},rightHs r hs = some ks → (∀ h ∈ hs,(narL r h).2 = 0) ∧ ∀ k,k ∈ ks ↔ ∃ h ∈ hs,∃ n,(narL r h).1 = some n ∧ k = n.right
 |[],ks,h=>by
  obtain rfl:=Option.some.inj h
  exact ⟨fun h hh=>(by cases hh),fun k=>⟨fun hk=>(by cases hk),fun ⟨h,hh,_⟩=>(by cases hh)⟩⟩
 |x :: hs,ks,h=>by
  unfold rightHs at h
  split at h
  ·cases h
  ·rename_i h0
   obtain ⟨l,hl,rfl⟩:=Option.map_eq_some_iff.1 h
   obtain ⟨h1,h2⟩:=rightHs_mem hl
   refine ⟨fun y hy=>?_,fun k=>?_⟩
   ·rcases List.mem_cons.1 hy with rfl | hy
    ·simpa using h0
    ·exact h1 y hy
   ·rw [List.mem_append,h2 k]
    constructor
    ·rintro (hk | ⟨y,hy,n,hn,rfl⟩)
     ·rw [Option.mem_toList] at hk
      obtain ⟨n,hn,rfl⟩:=Option.map_eq_some_iff.1 hk
      exact ⟨x,by simp,n,hn,rfl⟩
     ·exact ⟨y,List.mem_cons_of_mem _ hy,n,hn,rfl⟩
    ·rintro ⟨y,hy,n,hn,rfl⟩
     rcases List.mem_cons.1 hy with rfl | hy
     ·refine .inl ?_
      rw [hn]
      simp
     ·exact .inr ⟨y,hy,n,hn,rfl⟩
theorem cov_right {r : Rule} {hs ks : List Pat} (hr : ruleErr r = 0) (hh : ∀ h ∈ hs,patErr h = 0) (hk : rightHs r hs = some ks) {P : List Str → Prop} (hP : ∀ q,P q → q.all comp = true ∧ matchL r.right q = true) (h0 : ∃ q,P q) :
  Cov ks P ↔ Cov hs (fun l=>l.all comp = true ∧ matchL r.left l = true ∧ P (trL r.left r.right l)):=by
 obtain ⟨m1,m2⟩:=rightHs_mem hk
 have tw:=ruleErr_twin.1 hr
 have back:=fun (q : List Str) (hq : P q)=>tr_twin tw.turn (hP q hq).1 (hP q hq).2
 constructor
 ·rintro ⟨k,hkm,hf⟩
  obtain ⟨h,hhm,n,hn,rfl⟩:=(m2 k).1 hkm
  refine ⟨h,hhm,fun l ⟨hc,hl,hp⟩=>?_⟩
  rw [← narL_right hn hc hl]
  exact hf _ hp
 ·rintro ⟨h,hhm,hf⟩
  obtain ⟨q0,hq0⟩:=h0
  obtain ⟨b1,b2,_,b4⟩:=back q0 hq0
  have hf0:=hf _ ⟨b2,b1,by rw [b4];exact hq0⟩
  rcases hn : (narL r h).1 with _ | n
  ·rw [narL_none hr (hh h hhm) hn (m1 h hhm) b2 b1] at hf0
   cases hf0
  ·refine ⟨n.right,(m2 _).2 ⟨h,hhm,n,hn,rfl⟩,fun q hq=>?_⟩
   obtain ⟨c1,c2,_,c4⟩:=back q hq
   have:=narL_right hn c2 c1
   rw [c4] at this
   rw [this]
   exact hf _ ⟨c2,c1,by rw [c4];exact hq⟩
theorem right_any {r : Rule} {hs ks : List Pat} (hr : ruleErr r = 0) (hh : ∀ h ∈ hs,patErr h = 0) (hk : rightHs r hs = some ks) {l : List Str} (hc : l.all comp = true) (hl : matchL r.left l = true) : (ks.any fun k=>matchL k (trL r.left r.right l)) = hs.any fun h=>matchL h l:=by
 have tw:=ruleErr_twin.1 hr
 obtain ⟨t1,t2,_,t4⟩:=tr_twin tw hc hl
 rw [Bool.eq_iff_iff,← Cov.one,← Cov.one,cov_right hr hh hk (P:=fun q=>q = trL r.left r.right l) (fun q hq=>by rw [hq];exact ⟨t2,t1⟩) ⟨_,rfl⟩]
 constructor
 ·rintro ⟨h,hm,hf⟩
  exact ⟨h,hm,fun k hk=>hf k (by rw [hk];exact ⟨hc,hl,rfl⟩)⟩
 ·rintro ⟨h,hm,hf⟩
  refine ⟨h,hm,fun k ⟨k1,k2,k3⟩=>hf k ?_⟩
  obtain ⟨_,_,_,s4⟩:=tr_twin tw k1 k2
  rw [k3,t4] at s4
  exact s4.symm
theorem right_has {x : Ent} {g : Reg} (hr : ruleErr x.rule = 0) (hg : gErr x.reg = 0) (h : rightG x = some g) {l : List Str} (hc : l.all comp = true) (hl : matchL x.left l = true) : hasG g (trL x.left x.right l) = hasG x.reg l:=by
 obtain ⟨ks,hk,rfl⟩:=Option.map_eq_some_iff.1 h
 have tw:=ruleErr_twin.1 hr
 have t1:=(tr_twin tw hc hl).1
 have:=right_any hr (gErr_zero hg).2.1 hk hc hl
 unfold hasG hasL Ent.reg
 show (matchL x.right _ && _) = (matchL x.left l && _)
 rw [show matchL x.right (trL x.left x.right l) = true from t1,hl]
 show (true && !(ks.any fun k=>matchL k (trL x.left x.right l))) = _
 rw [show (ks.any fun k=>matchL k (trL x.left x.right l)) = x.hs.any fun h=>matchL h l from this]
end Go.Proofs.YtdcdabbepnahnaaGreatDoor.Sy
set_option linter.unusedVariables false
set_option linter.unusedSimpArgs false
namespace Go.Proofs.YtdcdabbepnahnaaGreatDoor.Sy
def fwdM (m : List Ent) (s : Str) : Option Str:=match pathOf s with
 |none=>none
 |some l=>(m.find? fun x=>hasG x.reg l).map fun x=>pathStr (trL x.left x.right l)
def hasR' (r : List Str) (x : Ent) : Bool:=matchL x.right r && hasG x.reg (trL x.right x.left r)
/-! ### lists of which no two have it -/
def Apart {α : Type} (p : α → Bool) (m : List α) : Prop:=∀ (i j : Nat) x y,m[i]? = some x → m[j]? = some y → j < i → (p x && p y) = false
theorem Apart.tail {α : Type} {p : α → Bool} {a : α} {m : List α} (h : Apart p (a :: m)) : Apart p m:=fun i j x y hi hj hji=>h (i + 1) (j + 1) x y (by simpa using hi) (by simpa using hj) (by omega)
theorem Apart.count {α : Type} {p : α → Bool} : ∀ {m : List α},Apart p m → m.countP p ≤ 1
 |[],_=>by simp
 |a :: m,h=>by
  have ih:=h.tail.count
  rw [List.countP_cons]
  rcases ha : p a with _ | _
  ·simpa using ih
  ·have h0 : m.countP p = 0:=by
    rw [List.countP_eq_zero]
    intro x hx
    obtain ⟨j,hj,e⟩:=List.mem_iff_getElem.1 hx
    have:=h (j + 1) 0 x a (by simp [List.getElem?_eq_getElem hj,e]) (by simp) (by omega)
    rw [ha,Bool.and_true] at this
    rw [this]
    simp
   rw [h0]
   simp
theorem Apart.find {α : Type} {p : α → Bool} {m : List α} (h : Apart p m) {x : α} (hx : x ∈ m) (hp : p x = true) : m.find? p = some x:=by
 obtain ⟨i,hi,e⟩:=List.mem_iff_getElem.1 hx
 have hix : m[i]? = some x:=by rw [List.getElem?_eq_getElem hi,e]
 rw [List.find?_eq_some_iff_getElem]
 refine ⟨hp,i,hi,e,fun j hj=>?_⟩
 have:=h i j x m[j] hix (List.getElem?_eq_getElem (by omega)) hj
 rw [hp,Bool.true_and] at this
 rw [this]
 rfl

/-! ### forth and back -/
theorem Mapping.left_apart {m : List Ent} (h : Mapping m) {l : List Str} (hc : l.all comp = true) : Apart (fun x : Ent=>hasG x.reg l) m:=fun i j x y hi hj hji=>by
 have hcl:=h.apart i j x y hi hj hji
 unfold clashE at hcl
 rw [Bool.or_eq_false_iff] at hcl
 have hx:=h.good x (List.mem_of_getElem? hi)
 have hy:=h.good y (List.mem_of_getElem? hj)
 exact common_none (a:=x.reg) (b:=y.reg) (gErr_zero hx.2).1 (gErr_zero hy.2).1 hcl.1 hc
theorem hasR'_rG {x : Ent} (hr : ruleErr x.rule = 0) (hg : gErr x.reg = 0) {g : Reg} (h : rightG x = some g) {r : List Str} (hc : r.all comp = true) : hasR' r x = hasG g r:=by
 have tw : Twin x.left x.right:=ruleErr_twin.1 hr
 obtain ⟨ks,_,hgk⟩:=Option.map_eq_some_iff.1 h
 unfold hasR'
 rcases hm : matchL x.right r with _ | _
 ·rw [← hgk]
  unfold hasG hasL
  show false = (matchL x.right r && _)
  rw [hm]
  rfl
 ·obtain ⟨t1,t2,_,t4⟩:=tr_twin tw.turn hc hm
  have:=right_has hr hg h t2 t1
  rw [show trL x.left x.right (trL x.right x.left r) = r from t4] at this
  rw [this,Bool.true_and]
end Go.Proofs.YtdcdabbepnahnaaGreatDoor.Sy
set_option linter.unusedVariables false
set_option linter.unusedSimpArgs false
namespace Go.Proofs.YtdcdabbepnahnaaGreatDoor.Sy

end Go.Proofs.YtdcdabbepnahnaaGreatDoor.Sy
