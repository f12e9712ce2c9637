/- Walk: have two regions a path in common? -/
import Derived.Deep.DeepCutAuto
import Derived.Deep.RegionHeld3
import Derived.BigQuiet
import Derived.Test.YtnlnclefedohkaaGreatDoorZReduceL
import Derived.Test.YtnlnclefedohkaaGreatDoorZView
import Derived.Test.YtnlnclefedohkaaGreatDoorZNarL
import Derived.Test.YtnlnclefedohkaaGreatDoorZWalkK
import Derived.Test.YtnlnclefedohkaaGreatDoorZConcatP
set_option linter.unusedVariables false
set_option linter.unusedSimpArgs false
namespace Go.Proofs.YtnlnclefedohkaaGreatDoor.Sy

structure Reg where
 b : Pat
 hs : List Pat
deriving DecidableEq,Inhabited

def gErr (g : Reg) : Int:=regErr g.b g.hs
def hasG (g : Reg) (l : List Str) : Bool:=hasL g.b g.hs l
theorem gErr_zero {g : Reg} (h : gErr g = 0) : patErr g.b = 0 ∧ (∀ p ∈ g.hs,patErr p = 0) ∧ g.hs.length ≤ 64:=by
 unfold gErr regErr at h
 split at h
 ·cases h
 ·rename_i h1
  split at h
  ·cases h
  ·rename_i h2
   split at h
   ·cases h
   ·rename_i h3
    refine ⟨by omega,fun p hp=>?_,by omega⟩
    rw [Bool.not_eq_true,List.any_eq_false] at h2
    have:=h2 p hp
    simpa using this
theorem gErr_of {g : Reg} (h1 : patErr g.b = 0) (h2 : ∀ p ∈ g.hs,patErr p = 0) (h3 : g.hs.length ≤ 64) : gErr g = 0:=by
 unfold gErr
 rw [regErr_end h1 (fun j h _ hj=>h2 h (List.mem_of_getElem? hj)),if_neg (by omega)]
end Go.Proofs.YtnlnclefedohkaaGreatDoor.Sy
set_option linter.unusedVariables false
set_option linter.unusedSimpArgs false
namespace Go.Proofs.YtnlnclefedohkaaGreatDoor.Sy

end Go.Proofs.YtnlnclefedohkaaGreatDoor.Sy
set_option linter.unusedVariables false
set_option linter.unusedSimpArgs false
namespace Go.Proofs.YtnlnclefedohkaaGreatDoor.Sy

structure Ent where
 left : Pat
 right : Pat
 hs : List Pat
deriving DecidableEq,Inhabited
def Ent.reg (x : Ent) : Reg:=⟨x.left,x.hs⟩
def Ent.rule (x : Ent) : Rule:=⟨false,x.left,x.right⟩
end Go.Proofs.YtnlnclefedohkaaGreatDoor.Sy
set_option linter.unusedVariables false
set_option linter.unusedSimpArgs false
namespace Go.Proofs.YtnlnclefedohkaaGreatDoor.Sy
theorem free_path {b : Pat} {hs : List Pat} {n : Nat} (hb : allOk b) (hr : reaches b n = true) (hlen : hs.length ≤ 64) (hf : full b hs n = false) : hasL b hs (comps b hs n n) = true ∧ (comps b hs n n).length = n ∧ (comps b hs n n).all comp = true:=by
 have hc:=comps_comp hb hs n n
 have hl:=comps_length b hs n n
 refine ⟨?_,hl,hc⟩
 rw [hasL,Bool.and_eq_true]
 constructor
 ·refine matchL_true.2 ⟨by rw [hl];exact hr,fun j hj=>?_⟩
  have hjn:=Nat.lt_of_lt_of_le hj (reaches_le hr)
  rw [comps_at hjn]
  have:=pick_mtch (b:=b) hs n (comps b hs n j)
  rw [comps_length] at this
  exact this
 ·simp only [Bool.not_eq_true',List.any_eq_false]
  intro q hq hm
  have hI:=inv_comps hf hlen n q hq
  rw [hl] at hI
  have ho:=matchL_open (p:=q) hc
  rw [hl] at ho
  have:=hI (by rw [ho];exact hm)
  have ht : covers q b n n = true:=covers_true.2 fun j h1 h2=>by omega
  rw [ht] at this
  cases this
theorem full_any (b : Pat) (hs : List Pat) (n : Nat) : full b hs n = hs.any fun h=>full b [h] n:=by
 simp [full]
theorem full_one {b h : Pat} {n : Nat} (hb : allOk b) (hr : reaches b n = true) : full b [h] n = true ↔ ∀ l : List Str,l.length = n → l.all comp = true → matchL b l = true → matchL h l = true:=by
 constructor
 ·intro hf l hl hc hm
  have:=full_match (hs:=[h]) hc hm (by rw [hl];exact hf)
  rw [hasL,hm] at this
  simpa using this
 ·intro H
  rcases hf : full b [h] n with _ | _
  ·obtain ⟨h1,h2,h3⟩:=free_path hb hr (by simp) hf
   rw [hasL,Bool.and_eq_true] at h1
   have:=H _ h2 h3 h1.1
   simp [this] at h1
  ·rfl
theorem some_path {b : Pat} {n : Nat} (hb : allOk b) (hr : reaches b n = true) : ∃ l : List Str,l.length = n ∧ l.all comp = true ∧ matchL b l = true:=by
 obtain ⟨h1,h2,h3⟩:=free_path (hs:=[]) hb hr (by simp) (by simp [full])
 rw [hasL,Bool.and_eq_true] at h1
 exact ⟨_,h2,h3,h1.1⟩
theorem below_fullF {b : Pat} {hs : List Pat} {m : Nat} (h0 : 0 < b.parts.length) (hr : reaches b m = true) (h : leastLen b hs = 0 ∨ m < leastLen b hs) : full b hs m = true:=by
 obtain ⟨h1,h2⟩:=reaches_first hr
 rcases Nat.lt_or_ge (lastLen b hs) m with hbig | hsm
 ·have hrest : b.rest = true:=by
   rcases hre : b.rest with _ | _
   ·have h3:=h2 hre
    unfold lastLen at hbig
    unfold firstLen at h3
    rw [hre] at hbig h3
    simp at hbig h3
    omega
   ·rfl
  have hl0 : lastLen b hs = hs.foldl (fun m h=>max m (h.parts.length + 1)) (b.parts.length + 1):=by rw [lastLen,if_pos hrest]
  have hf0 : firstLen b = b.parts.length + 1:=by rw [firstLen,if_pos hrest]
  obtain ⟨g1,g2⟩:=last_max (hs:=hs) (b.parts.length + 1)
  rw [← hl0] at g1 g2
  have hz : leastLen b hs = 0:=by
   rcases h with h | h
   ·exact h
   ·have:=(seek_in (b:=b) (hs:=hs) (lastLen b hs + 1 - firstLen b) (firstLen b) (by unfold leastLen at h;omega)).2
    unfold leastLen at h
    omega
  have hfl : full b hs (lastLen b hs) = true:=seek_lt (lastLen b hs + 1 - firstLen b) (firstLen b) (lastLen b hs) (by omega) (by omega) (by omega) (.inl hz)
  simp only [full,List.any_eq_true,Bool.and_eq_true] at hfl
  obtain ⟨q,hm,hrq,hcov⟩:=hfl
  have hq:=g2 q hm
  have hqr : q.rest = true:=by
   rcases hre : q.rest with _ | _
   ·unfold reaches at hrq
    rw [hre] at hrq
    simp at hrq
    omega
   ·rfl
  simp only [full,List.any_eq_true,Bool.and_eq_true]
  exact ⟨q,hm,by rw [reaches,hqr];simp;omega,covers_true.2 fun j j1 j2 j3=>covers_true.1 hcov j j1 (by omega) j3⟩
 ·exact seek_lt _ (firstLen b) m (by unfold firstLen;split <;> omega) h1 (by omega) h
theorem zero_iff {b : Pat} {hs : List Pat} (h0 : 0 < b.parts.length) : leastLen b hs = 0 ↔ ∀ n,reaches b n = true → full b hs n = true:=by
 constructor
 ·exact fun h n hr=>below_fullF h0 hr (.inl h)
 ·intro H
  apply Classical.byContradiction
  intro hne
  have h1:=leastLen_full hne
  rw [H _ (least_reaches hne)] at h1
  cases h1
end Go.Proofs.YtnlnclefedohkaaGreatDoor.Sy
set_option linter.unusedVariables false
set_option linter.unusedSimpArgs false
namespace Go.Proofs.YtnlnclefedohkaaGreatDoor.Sy
def rightHs (r : Rule) : List Pat → Option (List Pat)
 |[]=>some []
 |h :: hs=>if (narL r h).2 ≠ 0 then none else (rightHs r hs).map fun l=>((narL r h).1.map (·.right)).toList ++ l
def rightG (x : Ent) : Option Reg:=(rightHs x.rule x.hs).map fun hs=>⟨x.right,hs⟩
def rG (x : Ent) : Reg:=(rightG x).getD ⟨x.right,[]⟩
def entryOk (x : Ent) : Bool:=ruleErr x.rule == 0 && gErr x.reg == 0
def commonG (a b : Reg) : Bool:=match meetP a.b b.b with
 |none=>false
 |some m=>leastLen m (a.hs ++ b.hs) != 0
def clashE (x y : Ent) : Bool:=commonG x.reg y.reg || commonG (rG x) (rG y)
def clashAt (m : List Ent) (i : Nat) : Bool:=(List.range i).any fun j=>clashE (m.getD i default) (m.getD j default)
def mapE (m : List Ent) : Nat × Int:=match m.findIdx? (fun x=>!entryOk x) with
 |some i=>(i,70)
 |none=>if 32 < m.length then (0,72) else if m.any (fun x=>(rightG x).isNone) then (0,72) else
  match (List.range m.length).find? (clashAt m) with
  |some i=>(i,71)
  |none=>(0,0)

theorem entryOk_iff {x : Ent} : entryOk x = true ↔ ruleErr x.rule = 0 ∧ gErr x.reg = 0:=by simp [entryOk]
theorem rightHs_good {r : Rule} : ∀ {hs ks : List Pat},rightHs r hs = some ks → (∀ k ∈ ks,patErr k = 0) ∧ ks.length ≤ hs.length
 |[],ks,h=>by
  obtain rfl:=Option.some.inj h
  exact ⟨fun k hk=>(by cases hk),Nat.le_refl _⟩
 |x :: hs,ks,h=>by
  unfold rightHs at h
  split at h
  ·cases h
  ·obtain ⟨l,hl,rfl⟩:=Option.map_eq_some_iff.1 h
   obtain ⟨h1,h2⟩:=rightHs_good hl
   refine ⟨fun k hk=>?_,?_⟩
   ·rcases List.mem_append.1 hk with hk | hk
    ·rw [Option.mem_toList] at hk
     obtain ⟨n,hn,rfl⟩:=Option.map_eq_some_iff.1 hk
     exact (ruleErr_twin.1 (narL_good hn)).rp
    ·exact h1 k hk
   ·have : ((narL r x).1.map (·.right)).toList.length ≤ 1:=by
     rcases (narL r x).1 with _ | n <;> simp
    rw [List.length_append,List.length_cons]
    omega
theorem rightHs_app {r : Rule} : ∀ (hs ks : List Pat),rightHs r (hs ++ ks) = match rightHs r hs with
  |none=>none
  |some l=>(rightHs r ks).map (l ++ ·)
 |[],ks=>by
  simp only [List.nil_append,rightHs]
  simp
 |x :: hs,ks=>by
  have ih:=rightHs_app (r:=r) hs ks
  simp only [List.cons_append,rightHs]
  by_cases h : (narL r x).2 ≠ 0
  ·rw [if_pos h,if_pos h]
  ·rw [if_neg h,if_neg h,ih]
   rcases rightHs r hs with _ | l
   ·rfl
   ·simp only [Option.map_some]
    rcases rightHs r ks with _ | k
    ·rfl
    ·simp
theorem rightHs_none {r : Rule} {hs : List Pat} (h : rightHs r hs = none) (ks : List Pat) : rightHs r (hs ++ ks) = none:=by
 rw [rightHs_app,h]
structure Mapping (m : List Ent) : Prop where
 good : ∀ x ∈ m,ruleErr x.rule = 0 ∧ gErr x.reg = 0
 few : m.length ≤ 32
 right : ∀ x ∈ m,∃ g,rightG x = some g
 apart : ∀ (i j : Nat) x y,m[i]? = some x → m[j]? = some y → j < i → clashE x y = false
theorem getD_of {α : Type} [Inhabited α] {l : List α} {i : Nat} {x : α} (h : l[i]? = some x) : l.getD i default = x:=by
 rw [List.getD_eq_getElem?_getD,h]
 rfl
theorem mapE_zero {m : List Ent} (h : (mapE m).2 = 0) : Mapping m ∧ mapE m = (0,0):=by
 unfold mapE at h ⊢
 rcases h1 : m.findIdx? (fun x=>!entryOk x) with _ | i
 ·rw [h1] at h
  simp only at h ⊢
  by_cases h2 : 32 < m.length
  ·rw [if_pos h2] at h;cases h
  ·rw [if_neg h2] at h ⊢
   by_cases h3 : m.any (fun x=>(rightG x).isNone) = true
   ·rw [if_pos h3] at h;cases h
   ·rw [if_neg h3] at h ⊢
    rcases h4 : (List.range m.length).find? (clashAt m) with _ | i
    ·refine ⟨⟨fun x hx=>?_,by omega,fun x hx=>?_,fun i j x y hi hj hji=>?_⟩,rfl⟩
     ·have:=List.findIdx?_eq_none_iff.1 h1 x hx
      exact entryOk_iff.1 (by simpa using this)
     ·rw [Bool.not_eq_true,List.any_eq_false] at h3
      have:=h3 x hx
      rcases h5 : rightG x with _ | g
      ·rw [h5] at this
       simp at this
      ·exact ⟨g,rfl⟩
     ·have:=List.find?_eq_none.1 h4 i (List.mem_range.2 (List.getElem?_eq_some_iff.1 hi).1)
      rw [Bool.not_eq_true,clashAt,List.any_eq_false] at this
      have:=this j (List.mem_range.2 hji)
      rw [getD_of hi,getD_of hj] at this
      simpa using this
    ·rw [h4] at h
     cases h
 ·rw [h1] at h
  cases h
end Go.Proofs.YtnlnclefedohkaaGreatDoor.Sy
set_option linter.unusedVariables false
set_option linter.unusedSimpArgs false
namespace Go.Proofs.YtnlnclefedohkaaGreatDoor
open Go Go.RowKit Sy

theorem llen_v (b : Pat) (hs : List Pat) (n : Nat) (A : Option Addr) (c : Nat) (HA : Option Addr) (hc : Nat) (w : World) (hv : leastLen b hs = n) (hb : StrsR w A b.parts) (hh : PatsR w HA hs) :
  Calls Tryz.prog 105 #[.agg #[.slice A b.parts.length c,.bool b.rest],.slice HA hs.length hc] w fun e w'=>e = .returned (.int .i64 n) ∧ Calm w w':=hv ▸ llen_c b hs A c HA hc w hb hh
def void (b : Pat) (hs : List Pat) : Bool:=leastLen b hs == 0
set_option maxHeartbeats 400000 in
theorem void_c (b : Pat) (hs : List Pat) (A : Option Addr) (c : Nat) (HA : Option Addr) (hc : Nat) (w : World) (hb : StrsR w A b.parts) (hh : PatsR w HA hs) :
  Calls Tryz.prog 69 #[.agg #[.slice A b.parts.length c,.bool b.rest],.slice HA hs.length hc] w fun e w'=>e = .returned (.bool (void b hs)) ∧ Calm w w':=by
 obtain ⟨n,hn⟩ : ∃ n,leastLen b hs = n:=⟨_,rfl⟩
 obtain ⟨w1,hw1⟩ : ∃ w1,w1 = w.alloc (.cells #[.slice A b.parts.length c,.bool b.rest] 40):=⟨_,rfl⟩
 have hc1 : Calm w w1:=by rw [hw1];exact (Calm.refl w).alloc _
 have hcall:=llen_v b hs n A c HA hc w1 hn (hb.calm hc1) (hh.calm hc1)
 have hv : Hid (void b hs = ((n : Int) == 0)):=by
  show void b hs = _
  rw [void,hn,Bool.eq_iff_iff]
  simp
 have HW:=Lib.hid hw1
 have HC:=Lib.hid hc1
 clear hn hw1 hc1 hb hh
 go_enter Tryz.func69,Tryz.ntmps69
 go_wp2_with (go_at_call 105;rw [← HW.out];refine hcall.mono ?_;rintro e w2 ⟨rfl,hc2⟩)
 go_ret
 exact ⟨ret_bool (by rw [hv.out]),HC.out.trans hc2⟩

end Go.Proofs.YtnlnclefedohkaaGreatDoor
set_option linter.unusedVariables false
set_option linter.unusedSimpArgs false
namespace Go.Proofs.YtnlnclefedohkaaGreatDoor
open Go Go.RowKit Sy

theorem voidp_c (b : Pat) (hs : List Pat) (v : Bool) (n m : Nat) (re : Bool) (A : Option Addr) (c : Nat) (HA : Option Addr) (hc : Nat) (w : World) (h : StrsR w A b.parts) (h2 : PatsR w HA hs) (hv : (leastLen b hs == 0) = v) (hn : b.parts.length = n) (hm : hs.length = m) (hre : b.rest = re) :
  Calls Tryz.prog 69 #[.agg #[.slice A n c,.bool re],.slice HA m hc] w fun e w'=>e = .returned (.bool v) ∧ Calm w w':=by
 have:=void_c b hs A c HA hc w h h2
 unfold void at this
 subst hv hn hm hre
 exact this
structure CBox (w1 : World) (B : Nat) (A : Option Addr) (n c : Nat) (re : Bool) (HA : Option Addr) (m hc : Nat) (A' : Option Addr) (n' c' : Nat) (re' : Bool) (HA' : Option Addr) (m' hc' : Nat) : Prop where
 size : B + 2 ≤ w1.heap.size
 x0 : w1.cell? ⟨B,0,none⟩ = some (.slice A n c)
 x1 : w1.cell? ⟨B,1,none⟩ = some (.bool re)
 x2 : w1.cell? ⟨B,2,none⟩ = some (.slice HA m hc)
 y0 : w1.cell? ⟨B + 1,0,none⟩ = some (.slice A' n' c')
 y1 : w1.cell? ⟨B + 1,1,none⟩ = some (.bool re')
 y2 : w1.cell? ⟨B + 1,2,none⟩ = some (.slice HA' m' hc')
theorem CBox.calm {w1 w2 : World} {B : Nat} {A : Option Addr} {n c : Nat} {re : Bool} {HA : Option Addr} {m hc : Nat} {A' : Option Addr} {n' c' : Nat} {re' : Bool} {HA' : Option Addr} {m' hc' : Nat} (h : CBox w1 B A n c re HA m hc A' n' c' re' HA' m' hc') (hcm : Calm w1 w2) : CBox w2 B A n c re HA m hc A' n' c' re' HA' m' hc':=by
 have h0 : B < w1.heap.size:=by have:=h.size;omega
 have h1 : B + 1 < w1.heap.size:=by have:=h.size;omega
 exact ⟨Nat.le_trans h.size hcm.size,hcm.at_ h.x0 h0,hcm.at_ h.x1 h0,hcm.at_ h.x2 h0,hcm.at_ h.y0 h1,hcm.at_ h.y1 h1,hcm.at_ h.y2 h1⟩
set_option maxRecDepth 100000 in
set_option maxHeartbeats 8000000 in
theorem common_c (x y : Reg) (v : Bool) (n m n' m' : Nat) (re re' : Bool) (A : Option Addr) (c : Nat) (HA : Option Addr) (hc : Nat) (A' : Option Addr) (c' : Nat) (HA' : Option Addr) (hc' : Nat) (w : World) (h : PatA w A c x.b) (hh : PatsR w HA x.hs) (h' : PatA w A' c' y.b) (hh' : PatsR w HA' y.hs) (gx : patErr x.b = 0) (gy : patErr y.b = 0) (hv : commonG x y = v)
  (hn : x.b.parts.length = n) (hm : x.hs.length = m) (hre : x.b.rest = re) (hn' : y.b.parts.length = n') (hm' : y.hs.length = m') (hre' : y.b.rest = re') (hl : m + m' ≤ 16384) :
  Calls Tryz.prog 86 #[.agg #[.slice A n c,.bool re,.slice HA m hc],.agg #[.slice A' n' c',.bool re',.slice HA' m' hc']] w fun e w'=>e = .returned (.bool v) ∧ Calm w w':=by
 obtain ⟨w1,hw1⟩ : ∃ w1,w1 = (w.alloc (.cells #[.slice A n c,.bool re,.slice HA m hc] 68)).alloc (.cells #[.slice A' n' c',.bool re',.slice HA' m' hc'] 68):=⟨_,rfl⟩
 have hc1 : Calm w w1:=by rw [hw1];exact ((Calm.refl w).alloc _).alloc _
 have hbox : CBox w1 w.heap.size A n c re HA m hc A' n' c' re' HA' m' hc':=by
  rw [hw1]
  exact ⟨by simp,by simp [go_sem],by simp [go_sem],by simp [go_sem],by simp [go_sem],by simp [go_sem],by simp [go_sem]⟩
 have HX:=Lib.hid (And.intro (h.calm hc1) (hh.calm hc1))
 have HY:=Lib.hid (And.intro (h'.calm hc1) (hh'.calm hc1))
 have HN:=Lib.hid (And.intro hn (And.intro hm hre))
 have HN':=Lib.hid (And.intro hn' (And.intro hm' hre'))
 have HW:=Lib.hid hw1
 have HC:=Lib.hid hc1
 have HB:=Lib.hid hbox
 have x0:=hbox.x0
 have x1:=hbox.x1
 have y0:=hbox.y0
 have y1:=hbox.y1
 clear hbox hc1 h hh h' hh' hn hm hre hn' hm' hre'
 unfold commonG at hv
 rcases hmt : meetP x.b y.b with _ | mm
 ·rw [hmt] at hv
  have hv2 : Hid (v = false):=hv.symm
  have KM : Hid (∀ W,Calm w1 W → Calls Tryz.prog 34 #[.agg #[.slice A n c,.bool re],.agg #[.slice A' n' c',.bool re']] W fun e w'=>e = .returned (.tuple #[.agg #[.slice none 0 0,.bool false],.bool false]) ∧ Calm W w'):=fun W hW=>by
   have:=meet_no x.b y.b A A' c c' W (HX.out.1.calm hW) (HY.out.1.calm hW) gx gy hmt
   rw [HN.out.1,HN.out.2.2,HN'.out.1,HN'.out.2.2] at this
   exact this
  clear gx gy hmt hv hw1
  go_enter Tryz.func86,Tryz.ntmps86
  rw [HW.out] at x0 x1 y0 y1
  go_wp2_with fail
  rw [← HW.out]
  refine (KM.out w1 (Calm.refl _)).mono ?_
  rintro e w3 ⟨rfl,hc3⟩
  go_wp2_with fail
  go_cut [4] (fun s wx=>s = .bool false ∧ Hid (Calm w3 wx))
  case first=>
   go_quiet (fail)
   all_goals
    go_wp2_with fail
    go_meet
    case rel=>
     first
      |exact ⟨rfl,Lib.hid (((Calm.refl _).alloc _).drewN _)⟩
      |exact ⟨rfl,Lib.hid ((Calm.refl _).alloc _)⟩
  case rest=>
   obtain ⟨rfl,HR⟩:=hcut
   go_wp2_with fail
   go_ret
   exact ⟨ret_bool hv2.out.symm,HC.out.trans (hc3.trans HR.out)⟩
 ·rw [hmt] at hv
  simp only at hv
  obtain ⟨vz,hvz⟩ : ∃ vz,(leastLen mm (x.hs ++ y.hs) == 0) = vz:=⟨_,rfl⟩
  have hv2 : Hid (v = !vz):=by
   show _ = _
   rw [← hv,← hvz]
   rfl
  obtain ⟨N,hN⟩ : ∃ N,(x.hs ++ y.hs).length = N:=⟨_,rfl⟩
  obtain ⟨gn,hgn⟩ : ∃ gn,mm.parts.length = gn:=⟨_,rfl⟩
  obtain ⟨gr,hgr⟩ : ∃ gr,mm.rest = gr:=⟨_,rfl⟩
  have KM : Hid (∀ W,Calm w1 W → Calls Tryz.prog 34 #[.agg #[.slice A n c,.bool re],.agg #[.slice A' n' c',.bool re']] W fun e w'=>(∃ A2 c2,e = .returned (.tuple #[.agg #[.slice A2 gn c2,.bool gr],.bool true]) ∧ SmallN w' W.heap.size ⟨A2,c2,mm⟩) ∧ Calm W w'):=fun W hW=>by
   have:=meet_yes x.b y.b mm A A' c c' W (HX.out.1.calm hW) (HY.out.1.calm hW) gx gy hmt
   rw [HN.out.1,HN.out.2.2,HN'.out.1,HN'.out.2.2,hgn,hgr] at this
   exact this
  have KV : Hid (∀ A2 c2 AC cC W,PatA W A2 c2 mm → PatsR W AC (x.hs ++ y.hs) → Calls Tryz.prog 69 #[.agg #[.slice A2 gn c2,.bool gr],.slice AC N cC] W fun e w'=>e = .returned (.bool vz) ∧ Calm W w'):=fun A2 c2 AC cC W h1 h2=>
   voidp_c mm (x.hs ++ y.hs) vz gn N gr A2 c2 AC cC W h1.r h2 hvz hgn hN hgr
  have HNN:=Lib.hid hN
  clear gx gy hmt hv hw1 hvz hgn hgr hN
  go_enter Tryz.func86,Tryz.ntmps86
  rw [HW.out] at x0 x1 y0 y1
  go_wp2_with fail
  rw [← HW.out]
  refine (KM.out w1 (Calm.refl _)).mono ?_
  rintro e w3 ⟨⟨A2,c2,rfl,hs3⟩,hc3⟩
  clear x0 x1 y0 y1
  go_upto_region 2 with (fail)
  obtain ⟨w4,hw4⟩ : ∃ w4,w4 = w3.alloc (.cells #[.slice A2 gn c2,.bool gr] 40):=⟨_,rfl⟩
  rw [← hw4]
  have hc4 : Calm w3 w4:=by rw [hw4];exact (Calm.refl w3).alloc _
  have t0 : w4.cell? ⟨w3.heap.size,0,none⟩ = some (.slice A2 gn c2):=by rw [hw4];simp [go_sem]
  have t1 : w4.cell? ⟨w3.heap.size,1,none⟩ = some (.bool gr):=by rw [hw4];simp [go_sem]
  have tlt : w3.heap.size < w4.heap.size:=by rw [hw4];simp [go_sem]
  have HC4:=Lib.hid (hc3.trans hc4)
  have HS4:=Lib.hid (hs3.calm hc4)
  have hBx:=HB.out.calm HC4.out
  have HSX : Hid (∀ W,Calm w4 W → W.cell? ⟨w3.heap.size,0,none⟩ = some (.slice A2 gn c2) ∧ W.cell? ⟨w3.heap.size,1,none⟩ = some (.bool gr) ∧ W.cell? ⟨w.heap.size,2,none⟩ = some (.slice HA m hc) ∧ W.cell? ⟨w.heap.size + 1,2,none⟩ = some (.slice HA' m' hc')):=fun W hW=>
   ⟨Calm.at_ hW t0 tlt,Calm.at_ hW t1 tlt,Calm.at_ hW hBx.x2 (by have:=hBx.size;omega),Calm.at_ hW hBx.y2 (by have:=hBx.size;omega)⟩
  have KCat : Hid (∀ W gg,Calm w4 W → W.cell? ⟨gg,0,none⟩ = some (.slice HA m hc) → W.cell? ⟨gg,1,none⟩ = some (.slice HA' m' hc') → gg < W.heap.size → Calls Tryz.prog 36 #[.slice (some ⟨gg,0,none⟩) 2 2] W fun e w'=>(∃ AC cC,e = .returned (.slice AC N cC) ∧ PatsR w' AC (x.hs ++ y.hs)) ∧ Calm W w'):=fun W gg hW k0 k1 hgg=>by
   have:=concat_c x.hs y.hs HA HA' m m' hc hc' gg 2 W (HX.out.2.calm (HC4.out.trans hW)) (HY.out.2.calm (HC4.out.trans hW)) HN.out.2.1 HN'.out.2.1 hl k0 k1 hgg
   unfold CatEnd at this
   rw [HNN.out] at this
   exact this
  clear hw4 hc3 hc4 hs3 t0 t1 tlt hBx KM
  go_cut [4] (fun s wx=>s = .bool (!vz) ∧ Hid (Calm w4 wx))
  case first=>
   go_region_held3 (fun W=>W.cell? ⟨w3.heap.size,0,none⟩ = some (.slice A2 gn c2) ∧ W.cell? ⟨w3.heap.size,1,none⟩ = some (.bool gr) ∧ W.cell? ⟨w.heap.size,2,none⟩ = some (.slice HA m hc) ∧ W.cell? ⟨w.heap.size + 1,2,none⟩ = some (.slice HA' m' hc'))
    (first
     |with_reducible exact HSX.out _ hcy
     |with_reducible exact HSX.out _ (hcy.alloc _)
     |with_reducible exact HSX.out _ hcx
     |with_reducible exact HSX.out _ (Calm.refl _)
     |with_reducible exact HSX.out _ (Below.drew (Calm.refl _))
     |with_reducible exact HSX.out _ (Below.drew ((Calm.refl _).alloc _))
     |with_reducible exact HSX.out _ ((Calm.refl _).alloc _)
     |go_keep)
    (first
     |(go_at_call 36;refine (KCat.out _ _ (by first | exact Below.drew ((Calm.refl _).alloc _) | exact (Calm.refl _).alloc _ | exact Below.drew (Calm.refl _)) (by simp [go_sem]) (by simp [go_sem]) (by simp [go_sem])).mono ?_;rintro e w6 ⟨⟨AC,cC,rfl,hP6⟩,hcC⟩;have hcx : Calm w4 w6:=Calm.trans (by first | exact Below.drew ((Calm.refl _).alloc _) | exact (Calm.refl _).alloc _ | exact Below.drew (Calm.refl _)) hcC)
     |(go_at_call 69;refine (KV.out A2 c2 AC cC _ (HS4.out.calm hcx).a hP6).mono ?_;rintro e w7 ⟨rfl,hc7⟩;have hcy : Calm w4 w7:=hcx.trans hc7))
   all_goals
    go_wp2_with fail
    go_meet
    case rel=>exact ⟨rfl,Lib.hid hcy⟩
  case rest=>
   obtain ⟨rfl,HR⟩:=hcut
   go_wp2_with fail
   go_ret
   exact ⟨ret_bool hv2.out.symm,HC.out.trans (HC4.out.trans HR.out)⟩
end Go.Proofs.YtnlnclefedohkaaGreatDoor
