/- Mappings: what they are, when they are ones. No program in sight. -/
import Derived.Test.YthopphabeddnfaaGreatDoorZEntL
set_option linter.unusedVariables false
set_option linter.unusedSimpArgs false
namespace Go.Proofs.YthopphabeddnfaaGreatDoor.Sy
theorem free_path {b : Pat} {hs : List Pat} {n : Nat} (hb : allOk b) (hr : reaches b n = true) (hlen : hs.length ≤ 64) (hf : full b hs n = false) : hasL b hs (comps b hs n n) = true ∧ (comps b hs n n).length = n ∧ (comps b hs n n).all comp = true:=by
 have hc:=comps_comp hb hs n n
 have hl:=comps_length b hs n n
 refine ⟨?_,hl,hc⟩
 rw [hasL,Bool.and_eq_true]
 constructor
 ·refine matchL_true.2 ⟨by rw [hl];exact hr,fun j hj=>?_⟩
  have hjn:=Nat.lt_of_lt_of_le hj (reaches_le hr)
  rw [comps_at hjn]
  have:=pick_mtch (b:=b) hs n (comps b hs n j)
  rw [comps_length] at this
  exact this
 ·simp only [Bool.not_eq_true',List.any_eq_false]
  intro q hq hm
  have hI:=inv_comps hf hlen n q hq
  rw [hl] at hI
  have ho:=matchL_open (p:=q) hc
  rw [hl] at ho
  have:=hI (by rw [ho];exact hm)
  have ht : covers q b n n = true:=covers_true.2 fun j h1 h2=>by omega
  rw [ht] at this
  cases this
theorem full_any (b : Pat) (hs : List Pat) (n : Nat) : full b hs n = hs.any fun h=>full b [h] n:=by
 simp [full]
theorem full_one {b h : Pat} {n : Nat} (hb : allOk b) (hr : reaches b n = true) : full b [h] n = true ↔ ∀ l : List Str,l.length = n → l.all comp = true → matchL b l = true → matchL h l = true:=by
 constructor
 ·intro hf l hl hc hm
  have:=full_match (hs:=[h]) hc hm (by rw [hl];exact hf)
  rw [hasL,hm] at this
  simpa using this
 ·intro H
  rcases hf : full b [h] n with _ | _
  ·obtain ⟨h1,h2,h3⟩:=free_path hb hr (by simp) hf
   rw [hasL,Bool.and_eq_true] at h1
   have:=H _ h2 h3 h1.1
   simp [this] at h1
  ·rfl
theorem some_path {b : Pat} {n : Nat} (hb : allOk b) (hr : reaches b n = true) : ∃ l : List Str,l.length = n ∧ l.all comp = true ∧ matchL b l = true:=by
 obtain ⟨h1,h2,h3⟩:=free_path (hs:=[]) hb hr (by simp) (by simp [full])
 rw [hasL,Bool.and_eq_true] at h1
 exact ⟨_,h2,h3,h1.1⟩
theorem below_fullF {b : Pat} {hs : List Pat} {m : Nat} (h0 : 0 < b.parts.length) (hr : reaches b m = true) (h : leastLen b hs = 0 ∨ m < leastLen b hs) : full b hs m = true:=by
 obtain ⟨h1,h2⟩:=reaches_first hr
 rcases Nat.lt_or_ge (lastLen b hs) m with hbig | hsm
 ·have hrest : b.rest = true:=by
   rcases hre : b.rest with _ | _
   ·have h3:=h2 hre
    unfold lastLen at hbig
    unfold firstLen at h3
    rw [hre] at hbig h3
    simp at hbig h3
    omega
   ·rfl
  have hl0 : lastLen b hs = hs.foldl (fun m h=>max m (h.parts.length + 1)) (b.parts.length + 1):=by rw [lastLen,if_pos hrest]
  have hf0 : firstLen b = b.parts.length + 1:=by rw [firstLen,if_pos hrest]
  obtain ⟨g1,g2⟩:=last_max (hs:=hs) (b.parts.length + 1)
  rw [← hl0] at g1 g2
  have hz : leastLen b hs = 0:=by
   rcases h with h | h
   ·exact h
   ·have:=(seek_in (b:=b) (hs:=hs) (lastLen b hs + 1 - firstLen b) (firstLen b) (by unfold leastLen at h;omega)).2
    unfold leastLen at h
    omega
  have hfl : full b hs (lastLen b hs) = true:=seek_lt (lastLen b hs + 1 - firstLen b) (firstLen b) (lastLen b hs) (by omega) (by omega) (by omega) (.inl hz)
  simp only [full,List.any_eq_true,Bool.and_eq_true] at hfl
  obtain ⟨q,hm,hrq,hcov⟩:=hfl
  have hq:=g2 q hm
  have hqr : q.rest = true:=by
   rcases hre : q.rest with _ | _
   ·unfold reaches at hrq
    rw [hre] at hrq
    simp at hrq
    omega
   ·rfl
  simp only [full,List.any_eq_true,Bool.and_eq_true]
  exact ⟨q,hm,by rw [reaches,hqr];simp;omega,covers_true.2 fun j j1 j2 j3=>covers_true.1 hcov j j1 (by omega) j3⟩
 ·exact seek_lt _ (firstLen b) m (by unfold firstLen;split <;> omega) h1 (by omega) h
theorem zero_iff {b : Pat} {hs : List Pat} (h0 : 0 < b.parts.length) : leastLen b hs = 0 ↔ ∀ n,reaches b n = true → full b hs n = true:=by
 constructor
 ·exact fun h n hr=>below_fullF h0 hr (.inl h)
 ·intro H
  apply Classical.byContradiction
  intro hne
  have h1:=leastLen_full hne
  rw [H _ (least_reaches hne)] at h1
  cases h1
theorem full_app (b : Pat) (hs ks : List Pat) (n : Nat) : full b (hs ++ ks) n = (full b hs n || full b ks n):=by
 simp [full,List.any_append]
end Go.Proofs.YthopphabeddnfaaGreatDoor.Sy
set_option linter.unusedVariables false
set_option linter.unusedSimpArgs false
namespace Go.Proofs.YthopphabeddnfaaGreatDoor.Sy
def rightHs (r : Rule) : List Pat → Option (List Pat)
 |[]=>some []
 |h :: hs=>if (narL r h).2 ≠ 0 then none else (rightHs r hs).map fun l=>((narL r h).1.map (·.right)).toList ++ l
def rightG (x : Ent) : Option Reg:=(rightHs x.rule x.hs).map fun hs=>⟨x.right,hs⟩
def rG (x : Ent) : Reg:=(rightG x).getD ⟨x.right,[]⟩
def entryOk (x : Ent) : Bool:=ruleErr x.rule == 0 && gErr x.reg == 0
def commonG (a b : Reg) : Bool:=match meetP a.b b.b with
 |none=>false
 |some m=>leastLen m (a.hs ++ b.hs) != 0
def clashE (x y : Ent) : Bool:=commonG x.reg y.reg || commonG (rG x) (rG y)
def clashAt (m : List Ent) (i : Nat) : Bool:=(List.range i).any fun j=>clashE (m.getD i default) (m.getD j default)
def mapE (m : List Ent) : Nat × Int:=match m.findIdx? (fun x=>!entryOk x) with
 |some i=>(i,70)
 |none=>if 32 < m.length then (0,72) else if m.any (fun x=>(rightG x).isNone) then (0,72) else
  match (List.range m.length).find? (clashAt m) with
  |some i=>(i,71)
  |none=>(0,0)

theorem entryOk_iff {x : Ent} : entryOk x = true ↔ ruleErr x.rule = 0 ∧ gErr x.reg = 0:=by simp [entryOk]
theorem rightHs_good {r : Rule} : ∀ {hs ks : List Pat},rightHs r hs = some ks → (∀ k ∈ ks,patErr k = 0) ∧ ks.length ≤ hs.length
 |[],ks,h=>by
  obtain rfl:=Option.some.inj h
  exact ⟨fun k hk=>(by cases hk),Nat.le_refl _⟩
 |x :: hs,ks,h=>by
  unfold rightHs at h
  split at h
  ·cases h
  ·obtain ⟨l,hl,rfl⟩:=Option.map_eq_some_iff.1 h
   obtain ⟨h1,h2⟩:=rightHs_good hl
   refine ⟨fun k hk=>?_,?_⟩
   ·rcases List.mem_append.1 hk with hk | hk
    ·rw [Option.mem_toList] at hk
     obtain ⟨n,hn,rfl⟩:=Option.map_eq_some_iff.1 hk
     exact (ruleErr_twin.1 (narL_good hn)).rp
    ·exact h1 k hk
   ·have : ((narL r x).1.map (·.right)).toList.length ≤ 1:=by
     rcases (narL r x).1 with _ | n <;> simp
    rw [List.length_append,List.length_cons]
    omega
theorem rightHs_app {r : Rule} : ∀ (hs ks : List Pat),rightHs r (hs ++ ks) = match rightHs r hs with
  |none=>none
  |some l=>(rightHs r ks).map (l ++ ·)
 |[],ks=>by
  simp only [List.nil_append,rightHs]
  simp
 |x :: hs,ks=>by
  have ih:=rightHs_app (r:=r) hs ks
  simp only [List.cons_append,rightHs]
  by_cases h : (narL r x).2 ≠ 0
  ·rw [if_pos h,if_pos h]
  ·rw [if_neg h,if_neg h,ih]
   rcases rightHs r hs with _ | l
   ·rfl
   ·simp only [Option.map_some]
    rcases rightHs r ks with _ | k
    ·rfl
    ·simp
theorem rightHs_none {r : Rule} {hs : List Pat} (h : rightHs r hs = none) (ks : List Pat) : rightHs r (hs ++ ks) = none:=by
 rw [rightHs_app,h]
theorem commonG_comm (a b : Reg) : commonG a b = commonG b a:=by
 unfold commonG
 rw [meetP_comm]
 rcases hm : meetP b.b a.b with _ | m
 ·rfl
 ·obtain ⟨_,_,_,h4⟩:=meetP_some hm
  have h0 : 0 < m.parts.length:=(patErr_form h4).1
  have : leastLen m (a.hs ++ b.hs) = 0 ↔ leastLen m (b.hs ++ a.hs) = 0:=by
   rw [zero_iff h0,zero_iff h0]
   constructor <;> intro H n hr <;> have:=H n hr <;> rw [full_app,Bool.or_comm] at this <;> rw [full_app] <;> exact this
  simp only
  rw [Bool.eq_iff_iff,bne_iff_ne,bne_iff_ne]
  exact not_congr this
structure Mapping (m : List Ent) : Prop where
 good : ∀ x ∈ m,ruleErr x.rule = 0 ∧ gErr x.reg = 0
 few : m.length ≤ 32
 right : ∀ x ∈ m,∃ g,rightG x = some g
 apart : ∀ (i j : Nat) x y,m[i]? = some x → m[j]? = some y → j < i → clashE x y = false
theorem getD_of {α : Type} [Inhabited α] {l : List α} {i : Nat} {x : α} (h : l[i]? = some x) : l.getD i default = x:=by
 rw [List.getD_eq_getElem?_getD,h]
 rfl
theorem mapE_zero {m : List Ent} (h : (mapE m).2 = 0) : Mapping m ∧ mapE m = (0,0):=by
 unfold mapE at h ⊢
 rcases h1 : m.findIdx? (fun x=>!entryOk x) with _ | i
 ·rw [h1] at h
  simp only at h ⊢
  by_cases h2 : 32 < m.length
  ·rw [if_pos h2] at h;cases h
  ·rw [if_neg h2] at h ⊢
   by_cases h3 : m.any (fun x=>(rightG x).isNone) = true
   ·rw [if_pos h3] at h;cases h
   ·rw [if_neg h3] at h ⊢
    rcases h4 : (List.range m.length).find? (clashAt m) with _ | i
    ·refine ⟨⟨fun x hx=>?_,by omega,fun x hx=>?_,fun i j x y hi hj hji=>?_⟩,rfl⟩
     ·have:=List.findIdx?_eq_none_iff.1 h1 x hx
      exact entryOk_iff.1 (by simpa using this)
     ·rw [Bool.not_eq_true,List.any_eq_false] at h3
      have:=h3 x hx
      rcases h5 : rightG x with _ | g
      ·rw [h5] at this
       simp at this
      ·exact ⟨g,rfl⟩
     ·have:=List.find?_eq_none.1 h4 i (List.mem_range.2 (List.getElem?_eq_some_iff.1 hi).1)
      rw [Bool.not_eq_true,clashAt,List.any_eq_false] at this
      have:=this j (List.mem_range.2 hji)
      rw [getD_of hi,getD_of hj] at this
      simpa using this
    ·rw [h4] at h
     cases h
 ·rw [h1] at h
  cases h
end Go.Proofs.YthopphabeddnfaaGreatDoor.Sy
