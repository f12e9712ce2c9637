/- The inverse of a mapping is a mapping and means the other way round. No program in sight. -/
import Derived.Test.YthopphabeddnfaaGreatDoorZMapL
set_option linter.unusedVariables false
set_option linter.unusedSimpArgs false
namespace Go.Proofs.YthopphabeddnfaaGreatDoor.Sy
def keyAt (h : Pat) (k : Nat) : Str:=if isStar (pAt h k) then 43 :: (pAt h k).tail else pAt h k
theorem star_key {b : Pat} {hs : List Pat} {n : Nat} {c : List Str} (hI : Inv b hs n c) (hp : isStar (pAt b c.length) = true) (h : Pat) (hh : h ∈ hs) (hcl : closes b n c h = true) {x : Str}
  (hx : (∃ a,x = a :: (pAt b c.length).tail) ∨ (∃ d,x = 43 :: d :: (pAt b c.length).tail)) (hm : mtch (pAt h c.length) x = true) : x = keyAt h c.length:=by
 simp only [closes,Bool.and_eq_true] at hcl
 unfold keyAt
 rcases hs' : isStar (pAt h c.length) with _ | _
 ·simp only [Bool.false_eq_true,if_false]
  unfold mtch at hm
  rw [hs'] at hm
  simp only [Bool.false_eq_true,if_false,beq_iff_eq] at hm
  exact hm.symm
 ·simp only [if_true]
  have hno : ¬ (pAt h c.length).tail <:+ (pAt b c.length).tail:=fun hsuf=>by
   have hc : covers h b c.length n = true:=covers_step hcl.2 (fun hl=>by
    unfold inside
    simp [hs',hp,endsWith_iff.2 hsuf])
   rw [hI h hh hcl.1] at hc
   cases hc
  unfold mtch at hm
  simp only [hs',if_true,Bool.and_eq_true,decide_eq_true_eq] at hm
  have h1:=endsWith_iff.1 hm.1
  rcases hx with ⟨a,rfl⟩ | ⟨d,rfl⟩
  ·exfalso
   rcases List.suffix_cons_iff.1 h1 with e | e
   ·have:=congrArg List.length e
    simp only [List.length_cons] at this hm
    omega
   ·exact hno e
  ·rcases List.suffix_cons_iff.1 h1 with e | e
   ·exfalso
    have:=congrArg List.length e
    simp only [List.length_cons] at this hm
    omega
   ·rcases List.suffix_cons_iff.1 e with e2 | e2
    ·rw [e2]
    ·exact absurd e2 hno
def tries (t : Str) : List Str:=starts.map (· :: t) ++ starts.map (fun d=>43 :: d :: t)
theorem tries_len (t : Str) : (tries t).length = 130:=by simp [tries,starts_len]
theorem tries_nodup (t : Str) : (tries t).Nodup:=by
 unfold tries
 rw [List.nodup_append]
 refine ⟨nodup_map_cons t _ starts_nodup,?_,fun x hx y hy e=>?_⟩
 ·have h1 : (starts.map (fun d=>43 :: d :: t)) = (starts.map (· :: t)).map (fun s=>43 :: s):=by rw [List.map_map];rfl
  rw [h1]
  have h2:=nodup_map_cons t _ starts_nodup
  have inj : ∀ l : List Str,l.Nodup → (l.map (fun s=>(43 : UInt8) :: s)).Nodup:=fun l hl=>by
   induction l with
   |nil=>simp
   |cons a l ih=>
    have h3:=List.nodup_cons.1 hl
    rw [List.map_cons,List.nodup_cons]
    refine ⟨fun hm=>?_,ih h3.2⟩
    obtain ⟨z,hz,e⟩:=List.mem_map.1 hm
    simp only [List.cons.injEq,true_and] at e
    subst e
    exact h3.1 hz
  exact inj _ h2
 ·obtain ⟨a,_,rfl⟩:=List.mem_map.1 hx
  obtain ⟨d,_,rfl⟩:=List.mem_map.1 hy
  have:=congrArg List.length e
  simp at this
theorem some_try {b : Pat} {hs : List Pat} {n : Nat} {c : List Str} (hI : Inv b hs n c) (hp : isStar (pAt b c.length) = true) (hlen : hs.length ≤ 129) : ∃ x ∈ tries (pAt b c.length).tail,allowed b hs n c x = true:=by
 apply Classical.byContradiction
 intro hne
 have hall : ∀ x ∈ tries (pAt b c.length).tail,x ∈ hs.map (fun h=>keyAt h c.length):=fun x hx=>by
  have h1 : ¬ allowed b hs n c x = true:=fun h=>hne ⟨x,hx,h⟩
  simp only [allowed,List.all_eq_true,Bool.not_eq_true',Classical.not_forall] at h1
  obtain ⟨h,hh,hf⟩:=h1
  have h2 : (closes b n c h && mtch (pAt h c.length) x) = true:=by simpa using hf
  rw [Bool.and_eq_true] at h2
  refine List.mem_map.2 ⟨h,hh,(star_key hI hp h hh h2.1 ?_ h2.2).symm⟩
  rcases List.mem_append.1 hx with hx | hx
  ·obtain ⟨a,_,rfl⟩:=List.mem_map.1 hx
   exact .inl ⟨a,rfl⟩
  ·obtain ⟨d,_,rfl⟩:=List.mem_map.1 hx
   exact .inr ⟨d,rfl⟩
 have:=pigeon _ _ (tries_nodup _) hall
 rw [tries_len,List.length_map] at this
 omega
theorem tries_comp {t x : Str} (ht : t.all isByte = true) (hx : x ∈ tries t) : comp x = true:=by
 rcases List.mem_append.1 hx with hx | hx
 ·obtain ⟨a,ha,rfl⟩:=List.mem_map.1 hx
  have:=starts_byte a ha
  simp [comp,this.1,this.2]
  simpa using ht
 ·obtain ⟨d,hd,rfl⟩:=List.mem_map.1 hx
  have:=starts_byte d hd
  have h43 : isByte 43 = true:=by decide
  simp [comp,this.1,h43]
  simpa using ht
theorem tries_mtch {p x : Str} (hp : isStar p = true) (hx : x ∈ tries p.tail) : mtch p x = true:=by
 unfold mtch
 rw [hp]
 simp only [if_true,Bool.and_eq_true,decide_eq_true_eq]
 rcases List.mem_append.1 hx with hx | hx
 ·obtain ⟨a,_,rfl⟩:=List.mem_map.1 hx
  exact ⟨endsWith_iff.2 (List.suffix_cons _ _),by simp⟩
 ·obtain ⟨d,_,rfl⟩:=List.mem_map.1 hx
  exact ⟨endsWith_iff.2 ((List.suffix_cons _ _).trans (List.suffix_cons _ _)),by simp only [List.length_cons];omega⟩
theorem free_to {b : Pat} {hs : List Pat} {n : Nat} (hb : allOk b) (hlen : hs.length ≤ 129) (hf : full b hs n = false) : ∀ k : Nat,∃ c : List Str,c.length = k ∧ c.all comp = true ∧ (∀ j,j < k → mtch (pAt b j) (c.getD j []) = true) ∧ Inv b hs n c
 |0=>⟨[],rfl,rfl,fun j hj=>absurd hj (Nat.not_lt_zero _),inv_start hf⟩
 |k + 1=>by
  obtain ⟨c,h1,h2,h3,h4⟩:=free_to hb hlen hf k
  have hpk:=allOk_at hb c.length
  obtain ⟨x,hxc,hxm,hxa⟩ : ∃ x,comp x = true ∧ mtch (pAt b c.length) x = true ∧ allowed b hs n c x = true:=by
   rcases hp : isStar (pAt b c.length) with _ | _
   ·refine ⟨pAt b c.length,partOk_comp hpk hp,by unfold mtch;rw [hp];simp,?_⟩
    simp only [allowed,List.all_eq_true,Bool.not_eq_true',Bool.and_eq_false_iff]
    intro h hh
    rcases hcl : closes b n c h with _ | _
    ·exact .inl rfl
    ·exact .inr (literal_allowed h4 hp h hh hcl)
   ·obtain ⟨x,hx,ha⟩:=some_try h4 hp hlen
    exact ⟨x,tries_comp (partOk_star hpk hp) hx,tries_mtch hp hx,ha⟩
  refine ⟨c ++ [x],by simp [h1],by rw [List.all_append,h2];simp [hxc],fun j hj=>?_,inv_step hxa⟩
  rw [List.getD_eq_getElem?_getD]
  by_cases e : j = k
  ·subst e
   rw [List.getElem?_append_right (by omega),h1,Nat.sub_self]
   rw [h1] at hxm
   exact hxm
  ·rw [List.getElem?_append_left (by omega),← List.getD_eq_getElem?_getD]
   exact h3 j (by omega)
theorem free_path2 {b : Pat} {hs : List Pat} {n : Nat} (hb : allOk b) (hr : reaches b n = true) (hlen : hs.length ≤ 129) (hf : full b hs n = false) : ∃ l : List Str,l.length = n ∧ l.all comp = true ∧ hasL b hs l = true:=by
 obtain ⟨c,h1,h2,h3,h4⟩:=free_to hb hlen hf n
 refine ⟨c,h1,h2,?_⟩
 rw [hasL,Bool.and_eq_true]
 constructor
 ·exact matchL_true.2 ⟨by rw [h1];exact hr,fun j hj=>h3 j (Nat.lt_of_lt_of_le hj (reaches_le hr))⟩
 ·simp only [Bool.not_eq_true',List.any_eq_false]
  intro q hq hm
  have hI:=h4 q hq
  rw [h1] at hI
  have ho:=matchL_open (p:=q) h2
  rw [h1] at ho
  have:=hI (by rw [ho];exact hm)
  have ht : covers q b n n = true:=covers_true.2 fun j j1 j2=>by omega
  rw [ht] at this
  cases this
theorem least_some {b : Pat} {hs : List Pat} (hb : allOk b) (hlen : hs.length ≤ 129) (h : leastLen b hs ≠ 0) : ∃ l : List Str,l.all comp = true ∧ hasL b hs l = true:=by
 obtain ⟨l,_,h2,h3⟩:=free_path2 hb (least_reaches h) hlen (leastLen_full h)
 exact ⟨l,h2,h3⟩
end Go.Proofs.YthopphabeddnfaaGreatDoor.Sy
set_option linter.unusedVariables false
set_option linter.unusedSimpArgs false
namespace Go.Proofs.YthopphabeddnfaaGreatDoor.Sy
def Both (p q : Pat) (n : Nat) (l : List Str) : Prop:=l.length = n ∧ l.all comp = true ∧ matchL p l = true ∧ matchL q l = true
def Cov (hs : List Pat) (P : List Str → Prop) : Prop:=∃ h ∈ hs,∀ l,P l → matchL h l = true
theorem Cov.mono {hs ks : List Pat} {P Q : List Str → Prop} (h : Cov hs P) (h1 : ∀ x ∈ hs,x ∈ ks) (h2 : ∀ l,Q l → P l) : Cov ks Q:=by
 obtain ⟨x,hx,hc⟩:=h
 exact ⟨x,h1 x hx,fun l hl=>hc l (h2 l hl)⟩
theorem Cov.one {hs : List Pat} {l : List Str} : Cov hs (fun k=>k = l) ↔ (hs.any fun h=>matchL h l) = true:=by
 rw [List.any_eq_true]
 constructor
 ·rintro ⟨h,hm,hc⟩
  exact ⟨h,hm,hc l rfl⟩
 ·rintro ⟨h,hm,hc⟩
  exact ⟨h,hm,fun k hk=>hk ▸ hc⟩
theorem commonG_false {a b : Reg} (ha : patErr a.b = 0) (hb : patErr b.b = 0) : commonG a b = false ↔ ∀ n,(∃ l,Both a.b b.b n l) → Cov (a.hs ++ b.hs) (Both a.b b.b n):=by
 unfold commonG
 rcases hm : meetP a.b b.b with _ | m
 ·have h1 : meetL a.b b.b = none:=by
   unfold meetP at hm
   rw [if_pos ⟨ha,hb⟩] at hm
   exact hm
  simp only [true_iff]
  rintro n ⟨l,_,hc,h2,h3⟩
  have:=meetL_nomatch h1 hc
  rw [h2,h3] at this
  cases this
 ·obtain ⟨g1,g2,g3,h4⟩:=meetP_some hm
  have h0 : 0 < m.parts.length:=(patErr_form h4).1
  have hok:=allOk_of h4
  have hml:=fun (l : List Str) (hc : l.all comp = true)=>meetL_match (allOk_of g1) (allOk_of g2) g3 hc
  simp only
  rw [bne_eq_false_iff_eq,zero_iff h0]
  constructor
  ·rintro H n ⟨l0,e0,hc0,h2,h3⟩
   have hm0 : matchL m l0 = true:=by rw [hml l0 hc0,h2,h3];rfl
   have hr:=(matchL_true.1 hm0).1
   rw [e0] at hr
   have hf:=H n hr
   rw [full_any,List.any_eq_true] at hf
   obtain ⟨h,hh,hf⟩:=hf
   exact ⟨h,hh,fun l ⟨e,hc,k2,k3⟩=>(full_one hok hr).1 hf l e hc (by rw [hml l hc,k2,k3];rfl)⟩
  ·intro H n hr
   obtain ⟨l0,e0,hc0,hm0⟩:=some_path hok hr
   have hm0':=hm0
   rw [hml l0 hc0,Bool.and_eq_true] at hm0'
   obtain ⟨h,hh,hf⟩:=H n ⟨l0,e0,hc0,hm0'⟩
   rw [full_any,List.any_eq_true]
   refine ⟨h,hh,(full_one hok hr).2 fun l e hc hl=>?_⟩
   rw [hml l hc,Bool.and_eq_true] at hl
   exact hf l ⟨e,hc,hl⟩
theorem common_none {a b : Reg} (ha : patErr a.b = 0) (hb : patErr b.b = 0) (h : commonG a b = false) {l : List Str} (hc : l.all comp = true) : (hasG a l && hasG b l) = false:=by
 rcases hx : hasG a l && hasG b l with _ | _
 ·rfl
 ·exfalso
  rw [Bool.and_eq_true] at hx
  obtain ⟨h1,h2⟩:=hx
  unfold hasG hasL at h1 h2
  rw [Bool.and_eq_true] at h1 h2
  obtain ⟨k,hk,hm⟩:=(commonG_false ha hb).1 h l.length ⟨l,rfl,hc,h1.1,h2.1⟩
  have hkl:=hm l ⟨rfl,hc,h1.1,h2.1⟩
  rcases List.mem_append.1 hk with hk | hk
  ·have:=h1.2
   simp only [Bool.not_eq_true',List.any_eq_false] at this
   exact this k hk hkl
  ·have:=h2.2
   simp only [Bool.not_eq_true',List.any_eq_false] at this
   exact this k hk hkl
theorem common_some {a b : Reg} (hl : a.hs.length + b.hs.length ≤ 129) (h : commonG a b = true) : ∃ l : List Str,l.all comp = true ∧ hasG a l = true ∧ hasG b l = true:=by
 unfold commonG at h
 rcases hm : meetP a.b b.b with _ | m
 ·rw [hm] at h;cases h
 ·rw [hm] at h
  obtain ⟨g1,g2,g3,h4⟩:=meetP_some hm
  simp only [bne_iff_ne] at h
  obtain ⟨l,hc,hh⟩:=least_some (allOk_of h4) (by rw [List.length_append];exact hl) h
  refine ⟨l,hc,?_⟩
  unfold hasL at hh
  rw [meetL_match (allOk_of g1) (allOk_of g2) g3 hc,List.any_append] at hh
  unfold hasG hasL
  simp only [Bool.and_eq_true,Bool.not_eq_true',Bool.or_eq_false_iff] at hh ⊢
  exact ⟨⟨hh.1.1,hh.2.1⟩,hh.1.2,hh.2.2⟩
/-! ### the right side -/
theorem rightHs_mem {r : Rule} : ∀ {hs ks : List Pat},rightHs r hs = some ks → (∀ h ∈ hs,(narL r h).2 = 0) ∧ ∀ k,k ∈ ks ↔ ∃ h ∈ hs,∃ n,(narL r h).1 = some n ∧ k = n.right
 |[],ks,h=>by
  obtain rfl:=Option.some.inj h
  exact ⟨fun h hh=>(by cases hh),fun k=>⟨fun hk=>(by cases hk),fun ⟨h,hh,_⟩=>(by cases hh)⟩⟩
 |x :: hs,ks,h=>by
  unfold rightHs at h
  split at h
  ·cases h
  ·rename_i h0
   obtain ⟨l,hl,rfl⟩:=Option.map_eq_some_iff.1 h
   obtain ⟨h1,h2⟩:=rightHs_mem hl
   refine ⟨fun y hy=>?_,fun k=>?_⟩
   ·rcases List.mem_cons.1 hy with rfl | hy
    ·simpa using h0
    ·exact h1 y hy
   ·rw [List.mem_append,h2 k]
    constructor
    ·rintro (hk | ⟨y,hy,n,hn,rfl⟩)
     ·rw [Option.mem_toList] at hk
      obtain ⟨n,hn,rfl⟩:=Option.map_eq_some_iff.1 hk
      exact ⟨x,by simp,n,hn,rfl⟩
     ·exact ⟨y,List.mem_cons_of_mem _ hy,n,hn,rfl⟩
    ·rintro ⟨y,hy,n,hn,rfl⟩
     rcases List.mem_cons.1 hy with rfl | hy
     ·refine .inl ?_
      rw [hn]
      simp
     ·exact .inr ⟨y,hy,n,hn,rfl⟩
theorem cov_right {r : Rule} {hs ks : List Pat} (hr : ruleErr r = 0) (hh : ∀ h ∈ hs,patErr h = 0) (hk : rightHs r hs = some ks) {P : List Str → Prop} (hP : ∀ q,P q → q.all comp = true ∧ matchL r.right q = true) (h0 : ∃ q,P q) :
  Cov ks P ↔ Cov hs (fun l=>l.all comp = true ∧ matchL r.left l = true ∧ P (trL r.left r.right l)):=by
 obtain ⟨m1,m2⟩:=rightHs_mem hk
 have tw:=ruleErr_twin.1 hr
 have back:=fun (q : List Str) (hq : P q)=>tr_twin tw.turn (hP q hq).1 (hP q hq).2
 constructor
 ·rintro ⟨k,hkm,hf⟩
  obtain ⟨h,hhm,n,hn,rfl⟩:=(m2 k).1 hkm
  refine ⟨h,hhm,fun l ⟨hc,hl,hp⟩=>?_⟩
  rw [← narL_right hn hc hl]
  exact hf _ hp
 ·rintro ⟨h,hhm,hf⟩
  obtain ⟨q0,hq0⟩:=h0
  obtain ⟨b1,b2,_,b4⟩:=back q0 hq0
  have hf0:=hf _ ⟨b2,b1,by rw [b4];exact hq0⟩
  rcases hn : (narL r h).1 with _ | n
  ·rw [narL_none hr (hh h hhm) hn (m1 h hhm) b2 b1] at hf0
   cases hf0
  ·refine ⟨n.right,(m2 _).2 ⟨h,hhm,n,hn,rfl⟩,fun q hq=>?_⟩
   obtain ⟨c1,c2,_,c4⟩:=back q hq
   have:=narL_right hn c2 c1
   rw [c4] at this
   rw [this]
   exact hf _ ⟨c2,c1,by rw [c4];exact hq⟩
theorem right_any {r : Rule} {hs ks : List Pat} (hr : ruleErr r = 0) (hh : ∀ h ∈ hs,patErr h = 0) (hk : rightHs r hs = some ks) {l : List Str} (hc : l.all comp = true) (hl : matchL r.left l = true) : (ks.any fun k=>matchL k (trL r.left r.right l)) = hs.any fun h=>matchL h l:=by
 have tw:=ruleErr_twin.1 hr
 obtain ⟨t1,t2,_,t4⟩:=tr_twin tw hc hl
 rw [Bool.eq_iff_iff,← Cov.one,← Cov.one,cov_right hr hh hk (P:=fun q=>q = trL r.left r.right l) (fun q hq=>by rw [hq];exact ⟨t2,t1⟩) ⟨_,rfl⟩]
 constructor
 ·rintro ⟨h,hm,hf⟩
  exact ⟨h,hm,fun k hk=>hf k (by rw [hk];exact ⟨hc,hl,rfl⟩)⟩
 ·rintro ⟨h,hm,hf⟩
  refine ⟨h,hm,fun k ⟨k1,k2,k3⟩=>hf k ?_⟩
  obtain ⟨_,_,_,s4⟩:=tr_twin tw k1 k2
  rw [k3,t4] at s4
  exact s4.symm
theorem right_has {x : Ent} {g : Reg} (hr : ruleErr x.rule = 0) (hg : gErr x.reg = 0) (h : rightG x = some g) {l : List Str} (hc : l.all comp = true) (hl : matchL x.left l = true) : hasG g (trL x.left x.right l) = hasG x.reg l:=by
 obtain ⟨ks,hk,rfl⟩:=Option.map_eq_some_iff.1 h
 have tw:=ruleErr_twin.1 hr
 have t1:=(tr_twin tw hc hl).1
 have:=right_any hr (gErr_zero hg).2.1 hk hc hl
 unfold hasG hasL Ent.reg
 show (matchL x.right _ && _) = (matchL x.left l && _)
 rw [show matchL x.right (trL x.left x.right l) = true from t1,hl]
 show (true && !(ks.any fun k=>matchL k (trL x.left x.right l))) = _
 rw [show (ks.any fun k=>matchL k (trL x.left x.right l)) = x.hs.any fun h=>matchL h l from this]
end Go.Proofs.YthopphabeddnfaaGreatDoor.Sy
set_option linter.unusedVariables false
set_option linter.unusedSimpArgs false
namespace Go.Proofs.YthopphabeddnfaaGreatDoor.Sy
def fwdM (m : List Ent) (s : Str) : Option Str:=match pathOf s with
 |none=>none
 |some l=>(m.find? fun x=>hasG x.reg l).map fun x=>pathStr (trL x.left x.right l)
def hasR' (r : List Str) (x : Ent) : Bool:=matchL x.right r && hasG x.reg (trL x.right x.left r)
def bwdM (m : List Ent) (s : Str) : Option Str:=match pathOf s with
 |none=>none
 |some r=>(m.find? (hasR' r)).map fun x=>pathStr (trL x.right x.left r)
def invOf (x : Ent) : Option Ent:=match rightG x with
 |none=>none
 |some g=>if leastLen x.right (redL x.right g.hs) = 0 then none else some ⟨x.right,x.left,redL x.right g.hs⟩
def invE (m : List Ent) : List Ent × Int:=if (mapE m).2 ≠ 0 then ([],(mapE m).2) else (m.filterMap invOf,0)

/-! ### lists of which no two have it -/
def Apart {α : Type} (p : α → Bool) (m : List α) : Prop:=∀ (i j : Nat) x y,m[i]? = some x → m[j]? = some y → j < i → (p x && p y) = false
theorem Apart.tail {α : Type} {p : α → Bool} {a : α} {m : List α} (h : Apart p (a :: m)) : Apart p m:=fun i j x y hi hj hji=>h (i + 1) (j + 1) x y (by simpa using hi) (by simpa using hj) (by omega)
theorem Apart.count {α : Type} {p : α → Bool} : ∀ {m : List α},Apart p m → m.countP p ≤ 1
 |[],_=>by simp
 |a :: m,h=>by
  have ih:=h.tail.count
  rw [List.countP_cons]
  rcases ha : p a with _ | _
  ·simpa using ih
  ·have h0 : m.countP p = 0:=by
    rw [List.countP_eq_zero]
    intro x hx
    obtain ⟨j,hj,e⟩:=List.mem_iff_getElem.1 hx
    have:=h (j + 1) 0 x a (by simp [List.getElem?_eq_getElem hj,e]) (by simp) (by omega)
    rw [ha,Bool.and_true] at this
    rw [this]
    simp
   rw [h0]
   simp
theorem Apart.find {α : Type} {p : α → Bool} {m : List α} (h : Apart p m) {x : α} (hx : x ∈ m) (hp : p x = true) : m.find? p = some x:=by
 obtain ⟨i,hi,e⟩:=List.mem_iff_getElem.1 hx
 have hix : m[i]? = some x:=by rw [List.getElem?_eq_getElem hi,e]
 rw [List.find?_eq_some_iff_getElem]
 refine ⟨hp,i,hi,e,fun j hj=>?_⟩
 have:=h i j x m[j] hix (List.getElem?_eq_getElem (by omega)) hj
 rw [hp,Bool.true_and] at this
 rw [this]
 rfl

/-! ### forth and back -/
theorem Mapping.left_apart {m : List Ent} (h : Mapping m) {l : List Str} (hc : l.all comp = true) : Apart (fun x : Ent=>hasG x.reg l) m:=fun i j x y hi hj hji=>by
 have hcl:=h.apart i j x y hi hj hji
 unfold clashE at hcl
 rw [Bool.or_eq_false_iff] at hcl
 have hx:=h.good x (List.mem_of_getElem? hi)
 have hy:=h.good y (List.mem_of_getElem? hj)
 exact common_none (a:=x.reg) (b:=y.reg) (gErr_zero hx.2).1 (gErr_zero hy.2).1 hcl.1 hc
theorem hasR'_rG {x : Ent} (hr : ruleErr x.rule = 0) (hg : gErr x.reg = 0) {g : Reg} (h : rightG x = some g) {r : List Str} (hc : r.all comp = true) : hasR' r x = hasG g r:=by
 have tw : Twin x.left x.right:=ruleErr_twin.1 hr
 obtain ⟨ks,_,hgk⟩:=Option.map_eq_some_iff.1 h
 unfold hasR'
 rcases hm : matchL x.right r with _ | _
 ·rw [← hgk]
  unfold hasG hasL
  show false = (matchL x.right r && _)
  rw [hm]
  rfl
 ·obtain ⟨t1,t2,_,t4⟩:=tr_twin tw.turn hc hm
  have:=right_has hr hg h t2 t1
  rw [show trL x.left x.right (trL x.right x.left r) = r from t4] at this
  rw [this,Bool.true_and]
theorem rG_some {x : Ent} {g : Reg} (h : rightG x = some g) : rG x = g ∧ g.b = x.right:=by
 obtain ⟨ks,_,rfl⟩:=Option.map_eq_some_iff.1 h
 unfold rG
 rw [h]
 exact ⟨rfl,rfl⟩
theorem Mapping.right_apart {m : List Ent} (h : Mapping m) {r : List Str} (hc : r.all comp = true) : Apart (hasR' r) m:=fun i j x y hi hj hji=>by
 have hcl:=h.apart i j x y hi hj hji
 unfold clashE at hcl
 rw [Bool.or_eq_false_iff] at hcl
 have hx:=h.good x (List.mem_of_getElem? hi)
 have hy:=h.good y (List.mem_of_getElem? hj)
 obtain ⟨g,hg⟩:=h.right x (List.mem_of_getElem? hi)
 obtain ⟨k,hk⟩:=h.right y (List.mem_of_getElem? hj)
 rw [hasR'_rG hx.1 hx.2 hg hc,hasR'_rG hy.1 hy.2 hk hc]
 have e:=hcl.2
 rw [(rG_some hg).1,(rG_some hk).1] at e
 exact common_none (by rw [(rG_some hg).2];exact (ruleErr_twin.1 hx.1).rp) (by rw [(rG_some hk).2];exact (ruleErr_twin.1 hy.1).rp) e hc
theorem pathStr_of {s : Str} {l : List Str} (h : pathOf s = some l) : s = pathStr l:=(pathOf_some h).2.2
theorem bwd_fwd {m : List Ent} (h : Mapping m) {s t : Str} (hb : bwdM m s = some t) : fwdM m t = some s:=by
 unfold bwdM at hb
 rcases hp : pathOf s with _ | r
 ·rw [hp] at hb;cases hb
 ·rw [hp] at hb
  obtain ⟨x,hx,rfl⟩:=Option.map_eq_some_iff.1 hb
  have hxm:=List.mem_of_find?_eq_some hx
  have hxp:=List.find?_some hx
  unfold hasR' at hxp
  rw [Bool.and_eq_true] at hxp
  have hc:=(pathOf_some hp).2.1
  have tw : Twin x.left x.right:=ruleErr_twin.1 (h.good x hxm).1
  obtain ⟨t1,t2,t3,t4⟩:=tr_twin tw.turn hc hxp.1
  unfold fwdM
  rw [pathOf_str t3 t2]
  simp only
  rw [(h.left_apart t2).find hxm hxp.2,Option.map_some,t4,pathStr_of hp]
theorem fwd_bwd {m : List Ent} (h : Mapping m) {s t : Str} (hf : fwdM m s = some t) : bwdM m t = some s:=by
 unfold fwdM at hf
 rcases hp : pathOf s with _ | l
 ·rw [hp] at hf;cases hf
 ·rw [hp] at hf
  obtain ⟨x,hx,rfl⟩:=Option.map_eq_some_iff.1 hf
  have hxm:=List.mem_of_find?_eq_some hx
  have hxp:=List.find?_some hx
  have hc:=(pathOf_some hp).2.1
  have hm : matchL x.left l = true:=by
   unfold hasG hasL at hxp
   rw [Bool.and_eq_true] at hxp
   exact hxp.1
  have tw : Twin x.left x.right:=ruleErr_twin.1 (h.good x hxm).1
  obtain ⟨t1,t2,t3,t4⟩:=tr_twin tw hc hm
  unfold bwdM
  rw [pathOf_str t3 t2]
  simp only
  rw [(h.right_apart t2).find hxm (by unfold hasR';rw [t1,t4,hxp];rfl),Option.map_some,t4,pathStr_of hp]
end Go.Proofs.YthopphabeddnfaaGreatDoor.Sy
set_option linter.unusedVariables false
set_option linter.unusedSimpArgs false
namespace Go.Proofs.YthopphabeddnfaaGreatDoor.Sy

theorem apart_of {m : List Ent} (h : m.Pairwise fun y x=>clashE x y = false) : ∀ (i j : Nat) x y,m[i]? = some x → m[j]? = some y → j < i → clashE x y = false:=fun i j x y hi hj hji=>by
 rw [List.pairwise_iff_getElem] at h
 obtain ⟨h1,rfl⟩:=List.getElem?_eq_some_iff.1 hi
 obtain ⟨h2,rfl⟩:=List.getElem?_eq_some_iff.1 hj
 exact h j i h2 h1 hji
end Go.Proofs.YthopphabeddnfaaGreatDoor.Sy
