/- The plain law of the least paths of regions: lists of bytes, patterns, holes. No program in sight. -/
set_option linter.unusedSimpArgs false
set_option linter.unusedVariables false
namespace Go.Proofs.YthopphabeddnfaaGreatDoor.Sy

abbrev Str:=List UInt8

def isByte (c : UInt8) : Bool:=
 (decide (65 ≤ c) && decide (c ≤ 90)) || (decide (97 ≤ c) && decide (c ≤ 122)) || (decide (48 ≤ c) && decide (c ≤ 57)) || c == 95 || c == 46 || c == 43 || c == 45
def comp : Str → Bool
 |[]=>false
 |c :: s=>c != 46 && isByte c && s.all isByte

def isStar : Str → Bool
 |[]=>false
 |c :: _=>c == 42
def starOk : Str → Bool
 |[]=>false
 |c :: s=>c == 42 && s.all isByte

def partOk (s : Str) : Bool:=comp s || starOk s

structure Pat where
 parts : List Str
 rest : Bool
deriving DecidableEq,Inhabited
def formI (l : Str) : Int:=if comp l then 1 else if starOk l then 2 else 0
theorem form_cases (l : Str) : (formI l = 1 ∧ comp l = true) ∨ (formI l = 2 ∧ comp l = false ∧ starOk l = true) ∨ (formI l = 0 ∧ comp l = false ∧ starOk l = false):=by
 unfold formI
 cases comp l <;> cases starOk l <;> simp
def good (i : Nat) (l : Str) : Bool:=if i = 0 then comp l else partOk l
def goodTo (ls : List Str) (k : Nat) : Bool:=(List.range k).all fun j=>good j (ls.getD j [])
theorem goodTo_succ (ls : List Str) (k : Nat) : goodTo ls (k + 1) = (goodTo ls k && good k (ls.getD k [])):=by
 simp [goodTo,List.range_succ]
theorem goodTo_le {ls : List Str} {k m : Nat} (h : k ≤ m) (hm : goodTo ls m = true) : goodTo ls k = true:=by
 simp only [goodTo,List.all_eq_true,List.mem_range] at hm ⊢
 exact fun j hj=>hm j (by omega)
def patErr (p : Pat) : Int:=
 if p.parts.length = 0 ∨ (p.parts.length = 1 ∧ p.rest = false) then 30
 else if goodTo p.parts p.parts.length then (if 12 < p.parts.length then 31 else 0) else 30
def okPat (p : Pat) : Bool:=patErr p == 0
theorem patErr_bad {p : Pat} {k : Nat} {l : Str} (hk : p.parts[k]? = some l) (hg : good k l = false) : patErr p = 30:=by
 have hlt : k < p.parts.length:=(List.getElem?_eq_some_iff.1 hk).1
 have hb : goodTo p.parts p.parts.length = false:=by
  rcases h : goodTo p.parts p.parts.length with _ | _
  ·rfl
  ·have h1:=goodTo_le (show k + 1 ≤ p.parts.length by omega) h
   rw [goodTo_succ] at h1
   have : p.parts.getD k [] = l:=by simp [List.getD_eq_getElem?_getD,hk]
   rw [this,hg] at h1
   simp at h1
 unfold patErr
 rw [hb]
 simp
theorem patErr_good {p : Pat} (h0 : p.parts.length ≠ 0) (h1 : ¬ (p.parts.length = 1 ∧ p.rest = false)) (hg : goodTo p.parts p.parts.length = true) : patErr p = if 12 < p.parts.length then 31 else 0:=by
 unfold patErr
 rw [if_neg (fun h=>h.elim h0 h1),hg]
 simp
def regErr (b : Pat) (hs : List Pat) : Int:=
 if patErr b ≠ 0 then 50 else if hs.any (fun h=>patErr h != 0) then 51 else if 64 < hs.length then 52 else 0
theorem regErr_base {b : Pat} {hs : List Pat} (h : patErr b ≠ 0) : regErr b hs = 50:=by rw [regErr,if_pos h]
theorem regErr_hole {b : Pat} {hs : List Pat} (hb : patErr b = 0) {k : Nat} {h : Pat} (hk : hs[k]? = some h) (hh : patErr h ≠ 0) : regErr b hs = 51:=by
 have : hs.any (fun h=>patErr h != 0) = true:=List.any_eq_true.2 ⟨h,List.mem_of_getElem? hk,by simpa using hh⟩
 rw [regErr,if_neg (by simpa using hb),if_pos this]
theorem regErr_end {b : Pat} {hs : List Pat} (hb : patErr b = 0) (hall : ∀ j h,j < hs.length → hs[j]? = some h → patErr h = 0) : regErr b hs = if 64 < hs.length then 52 else 0:=by
 have : hs.any (fun h=>patErr h != 0) = false:=by
  rw [List.any_eq_false]
  intro h hm
  obtain ⟨j,hj,e⟩:=List.mem_iff_getElem.1 hm
  simp [hall j h hj (by rw [List.getElem?_eq_getElem hj,e])]
 rw [regErr,if_neg (by simpa using hb),this]
 simp

def endsWith (s t : Str) : Bool:=t.isSuffixOf s
def mtch (part c : Str) : Bool:=if isStar part then endsWith c part.tail && decide (part.tail.length < c.length) else part == c
def inside (x y : Str) : Bool:=x == y || (isStar y && (if isStar x then endsWith x.tail y.tail else mtch y x))

def pAt (p : Pat) (i : Nat) : Str:=p.parts.getD i [42]

def reaches (p : Pat) (n : Nat) : Bool:=if p.rest then decide (p.parts.length < n) else n == p.parts.length

def covers (h b : Pat) (i n : Nat) : Bool:=(List.range (min n h.parts.length)).all fun j=>decide (j < i) || inside (pAt b j) (pAt h j)

def full (b : Pat) (hs : List Pat) (n : Nat) : Bool:=hs.any fun h=>reaches h n && covers h b 0 n

def firstLen (b : Pat) : Nat:=if b.rest then b.parts.length + 1 else b.parts.length
def lastLen (b : Pat) (hs : List Pat) : Nat:=if b.rest then hs.foldl (fun m h=>max m (h.parts.length + 1)) (b.parts.length + 1) else b.parts.length
def seek (b : Pat) (hs : List Pat) : Nat → Nat → Nat
 |_,0=>0
 |n,k + 1=>if full b hs n then seek b hs (n + 1) k else n

def leastLen (b : Pat) (hs : List Pat) : Nat:=seek b hs (firstLen b) (lastLen b hs + 1 - firstLen b)

def starts : List UInt8:=[43,45,48,49,50,51,52,53,54,55,56,57,65,66,67,68,69,70,71,72,73,74,75,76,77,78,79,80,81,82,83,84,85,86,87,88,89,90,95,97,98,99,100,101,102,103,104,105,106,107,108,109,110,111,112,113,114,115,116,117,118,119,120,121,122]
def isOpen (n : Nat) (c : List Str) (h : Pat) : Bool:=reaches h n && (List.range c.length).all fun j=>mtch (pAt h j) (c.getD j [])
def closes (b : Pat) (n : Nat) (c : List Str) (h : Pat) : Bool:=isOpen n c h && covers h b (c.length + 1) n

def allowed (b : Pat) (hs : List Pat) (n : Nat) (c : List Str) (x : Str) : Bool:=hs.all fun h=>!(closes b n c h && mtch (pAt h c.length) x)
def pick (b : Pat) (hs : List Pat) (n : Nat) (c : List Str) : Str:=
 let p:=pAt b c.length
 if isStar p then ((starts.find? fun x=>allowed b hs n c (x :: p.tail)).getD 43) :: p.tail else p

def comps (b : Pat) (hs : List Pat) (n : Nat) : Nat → List Str
 |0=>[]
 |k + 1=>comps b hs n k ++ [pick b hs n (comps b hs n k)]

theorem comps_length (b : Pat) (hs : List Pat) (n k : Nat) : (comps b hs n k).length = k:=by
 induction k with
 |zero=>rfl
 |succ k ih=>simp [comps,ih]

/-! ### what the search keeps: no open hole covers all that follows -/

def Inv (b : Pat) (hs : List Pat) (n : Nat) (c : List Str) : Prop:=∀ h ∈ hs,isOpen n c h = true → covers h b c.length n = false

theorem covers_true {h b : Pat} {i n : Nat} : covers h b i n = true ↔ ∀ j,i ≤ j → j < n → j < h.parts.length → inside (pAt b j) (pAt h j) = true:=by
 simp only [covers,List.all_eq_true,List.mem_range,Bool.or_eq_true,decide_eq_true_eq]
 constructor
 ·intro H j h1 h2 h3
  rcases H j (by omega) with h4 | h4
  ·omega
  ·exact h4
 ·intro H j hj
  by_cases h4 : j < i
  ·exact .inl h4
  ·exact .inr (H j (by omega) (by omega) (by omega))

theorem covers_step {h b : Pat} {i n : Nat} (hc : covers h b (i + 1) n = true) (hin : i < h.parts.length → inside (pAt b i) (pAt h i) = true) : covers h b i n = true:=by
 rw [covers_true] at hc ⊢
 intro j h1 h2 h3
 by_cases e : j = i
 ·subst e;exact hin h3
 ·exact hc j (by omega) h2 h3

theorem pAt_out {p : Pat} {i : Nat} (h : p.parts.length ≤ i) : pAt p i = [42]:=by
 simp [pAt,List.getD_eq_getElem?_getD,List.getElem?_eq_none h]

theorem isOpen_snoc (n : Nat) (c : List Str) (x : Str) (h : Pat) : isOpen n (c ++ [x]) h = (isOpen n c h && mtch (pAt h c.length) x):=by
 simp only [isOpen,List.length_append,List.length_cons,List.length_nil,Nat.zero_add,List.range_succ,List.all_append,List.all_cons,List.all_nil,Bool.and_true]
 rw [Bool.and_assoc]
 congr 1
 congr 1
 ·rw [Bool.eq_iff_iff]
  simp only [List.all_eq_true,List.mem_range]
  constructor <;> intro H j hj <;> have:=H j hj <;> simpa [List.getElem?_append_left hj] using this
 ·simp
theorem literal_allowed {b : Pat} {hs : List Pat} {n : Nat} {c : List Str} (hI : Inv b hs n c) (hp : isStar (pAt b c.length) = false) (h : Pat) (hh : h ∈ hs) (hcl : closes b n c h = true) :
  mtch (pAt h c.length) (pAt b c.length) = false:=by
 simp only [closes,Bool.and_eq_true] at hcl
 rcases hm : mtch (pAt h c.length) (pAt b c.length) with _ | _
 ·rfl
 ·have hc : covers h b c.length n = true:=covers_step hcl.2 (fun hl=>by
   unfold inside
   rcases hs' : isStar (pAt h c.length) with _ | _
   ·simp only [mtch,hs'] at hm
    have : pAt h c.length = pAt b c.length:=by simpa using hm
    simp [this]
   ·simp [hs',hp,hm])
  rw [hI h hh hcl.1] at hc
  cases hc

theorem endsWith_iff {s t : Str} : endsWith s t = true ↔ t <:+ s:=by simp [endsWith]
theorem star_forbids {b : Pat} {hs : List Pat} {n : Nat} {c : List Str} (hI : Inv b hs n c) (hp : isStar (pAt b c.length) = true) (h : Pat) (hh : h ∈ hs) (hcl : closes b n c h = true)
  {x : UInt8} (hm : mtch (pAt h c.length) (x :: (pAt b c.length).tail) = true) : pAt h c.length = x :: (pAt b c.length).tail:=by
 simp only [closes,Bool.and_eq_true] at hcl
 rcases hs' : isStar (pAt h c.length) with _ | _
 ·simpa [mtch,hs'] using hm
 ·exfalso
  have hc : covers h b c.length n = true:=covers_step hcl.2 (fun hl=>by
   unfold inside
   simp only [mtch,hs',if_true,Bool.and_eq_true,decide_eq_true_eq,List.length_cons] at hm
   have h1 : (pAt h c.length).tail <:+ x :: (pAt b c.length).tail:=endsWith_iff.1 hm.1
   have h2 : (pAt h c.length).tail <:+ (pAt b c.length).tail:=by
    rcases List.suffix_cons_iff.1 h1 with e | e
    ·have:=congrArg List.length e
     simp only [List.length_cons] at this
     omega
    ·exact e
   simp [hs',hp,endsWith_iff.2 h2])
  rw [hI h hh hcl.1] at hc
  cases hc

theorem starts_nodup : starts.Nodup:=by decide
theorem starts_len : starts.length = 65:=rfl

theorem pigeon {α : Type} [DecidableEq α] : ∀ (l m : List α),l.Nodup → (∀ x ∈ l,x ∈ m) → l.length ≤ m.length
 |[],_,_,_=>Nat.zero_le _
 |x :: l,m,hn,hs=>by
  have hx:=hs x (by simp)
  have hn':=List.nodup_cons.1 hn
  have h1:=pigeon l (m.erase x) hn'.2 (fun y hy=>(List.mem_erase_of_ne (by rintro rfl;exact hn'.1 hy)).2 (hs y (by simp [hy])))
  rw [List.length_erase_of_mem hx] at h1
  have h2:=List.length_pos_of_mem hx
  simp only [List.length_cons]
  omega

theorem nodup_map_cons (t : Str) : ∀ l : List UInt8,l.Nodup → (l.map (· :: t)).Nodup
 |[],_=>by simp
 |x :: l,hn=>by
  have hn':=List.nodup_cons.1 hn
  simp only [List.map_cons,List.nodup_cons]
  refine ⟨?_,nodup_map_cons t l hn'.2⟩
  intro hm
  obtain ⟨y,hy,he⟩:=List.mem_map.1 hm
  simp only [List.cons.injEq,and_true] at he
  subst he
  exact hn'.1 hy
theorem some_start {b : Pat} {hs : List Pat} {n : Nat} {c : List Str} (hI : Inv b hs n c) (hp : isStar (pAt b c.length) = true) (hlen : hs.length ≤ 64) :
  ∃ x ∈ starts,allowed b hs n c (x :: (pAt b c.length).tail) = true:=by
 apply Classical.byContradiction
 intro hne
 have hall : ∀ x ∈ starts,x :: (pAt b c.length).tail ∈ hs.map (fun h=>pAt h c.length):=by
  intro x hx
  have h1 : ¬ allowed b hs n c (x :: (pAt b c.length).tail) = true:=fun h=>hne ⟨x,hx,h⟩
  simp only [allowed,List.all_eq_true,Bool.not_eq_true',Classical.not_forall] at h1
  obtain ⟨h,hh,hf⟩:=h1
  have h2 : (closes b n c h && mtch (pAt h c.length) (x :: (pAt b c.length).tail)) = true:=by simpa using hf
  simp only [Bool.and_eq_true] at h2
  exact List.mem_map.2 ⟨h,hh,star_forbids hI hp h hh h2.1 h2.2⟩
 have hn : (starts.map (· :: (pAt b c.length).tail)).Nodup:=nodup_map_cons _ _ starts_nodup
 have:=pigeon (starts.map (· :: (pAt b c.length).tail)) (hs.map (fun h=>pAt h c.length)) hn (fun y hy=>by
  obtain ⟨x,hx,rfl⟩:=List.mem_map.1 hy
  exact hall x hx)
 simp [starts_len] at this
 omega
theorem pick_allowed {b : Pat} {hs : List Pat} {n : Nat} {c : List Str} (hI : Inv b hs n c) (hlen : hs.length ≤ 64) : allowed b hs n c (pick b hs n c) = true:=by
 unfold pick
 rcases hp : isStar (pAt b c.length) with _ | _
 ·simp only [hp,Bool.false_eq_true,if_false]
  simp only [allowed,List.all_eq_true,Bool.not_eq_true',Bool.and_eq_false_iff]
  intro h hh
  rcases hcl : closes b n c h with _ | _
  ·exact .inl rfl
  ·exact .inr (literal_allowed hI hp h hh hcl)
 ·simp only [hp,if_true]
  obtain ⟨x,hx,ha⟩:=some_start hI hp hlen
  rcases hf : starts.find? (fun x=>allowed b hs n c (x :: (pAt b c.length).tail)) with _ | y
  ·have:=List.find?_eq_none.1 hf x hx
   exact absurd ha this
  ·simpa using List.find?_some hf

theorem inv_step {b : Pat} {hs : List Pat} {n : Nat} {c : List Str} {x : Str} (ha : allowed b hs n c x = true) : Inv b hs n (c ++ [x]):=by
 intro h hh ho
 rw [isOpen_snoc,Bool.and_eq_true] at ho
 simp only [List.length_append,List.length_cons,List.length_nil,Nat.zero_add]
 rcases hc : covers h b (c.length + 1) n with _ | _
 ·rfl
 ·exfalso
  simp only [allowed,List.all_eq_true,Bool.not_eq_true',Bool.and_eq_false_iff] at ha
  rcases ha h hh with h1 | h1
  ·simp [closes,ho.1,hc] at h1
  ·rw [ho.2] at h1;cases h1

theorem inv_start {b : Pat} {hs : List Pat} {n : Nat} (hf : full b hs n = false) : Inv b hs n []:=by
 intro h hh ho
 simp only [full,List.any_eq_false] at hf
 have:=hf h hh
 have hr : reaches h n = true:=by simpa [isOpen] using ho
 simpa [hr] using this

theorem inv_comps {b : Pat} {hs : List Pat} {n : Nat} (hf : full b hs n = false) (hlen : hs.length ≤ 64) : ∀ k,Inv b hs n (comps b hs n k)
 |0=>inv_start hf
 |k + 1=>inv_step (pick_allowed (inv_comps hf hlen k) hlen)

theorem seek_full {b : Pat} {hs : List Pat} : ∀ (k n : Nat),seek b hs n k ≠ 0 → full b hs (seek b hs n k) = false
 |0,_,h=>absurd rfl h
 |k + 1,n,h=>by
  unfold seek at h ⊢
  rcases hf : full b hs n with _ | _
  ·simpa using hf
  ·simp only [hf,if_true] at h ⊢
   exact seek_full k (n + 1) h

theorem leastLen_full {b : Pat} {hs : List Pat} (h : leastLen b hs ≠ 0) : full b hs (leastLen b hs) = false:=seek_full _ _ h

end Go.Proofs.YthopphabeddnfaaGreatDoor.Sy
