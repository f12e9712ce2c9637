/- Walk: mapping.put, where reduce does what it should. -/
import Derived.Test.YtnlnclefedohkaaGreatDoorZCommonP
import Derived.Test.YtnlnclefedohkaaGreatDoorZColF
import Derived.Test.YtnlnclefedohkaaGreatDoorZCopyP
set_option linter.unusedVariables false
set_option linter.unusedSimpArgs false
namespace Go.Proofs.YtnlnclefedohkaaGreatDoor.Sy

end Go.Proofs.YtnlnclefedohkaaGreatDoor.Sy
set_option linter.unusedVariables false
set_option linter.unusedSimpArgs false
namespace Go.Proofs.YtnlnclefedohkaaGreatDoor.Sy
def Both (p q : Pat) (n : Nat) (l : List Str) : Prop:=l.length = n ∧ l.all comp = true ∧ matchL p l = true ∧ matchL q l = true
def Cov (hs : List Pat) (P : List Str → Prop) : Prop:=∃ h ∈ hs,∀ l,P l → matchL h l = true
theorem Cov.mono {hs ks : List Pat} {P Q : List Str → Prop} (h : Cov hs P) (h1 : ∀ x ∈ hs,x ∈ ks) (h2 : ∀ l,Q l → P l) : Cov ks Q:=by
 obtain ⟨x,hx,hc⟩:=h
 exact ⟨x,h1 x hx,fun l hl=>hc l (h2 l hl)⟩
theorem commonG_false {a b : Reg} (ha : patErr a.b = 0) (hb : patErr b.b = 0) : commonG a b = false ↔ ∀ n,(∃ l,Both a.b b.b n l) → Cov (a.hs ++ b.hs) (Both a.b b.b n):=by
 unfold commonG
 rcases hm : meetP a.b b.b with _ | m
 ·have h1 : meetL a.b b.b = none:=by
   unfold meetP at hm
   rw [if_pos ⟨ha,hb⟩] at hm
   exact hm
  simp only [true_iff]
  rintro n ⟨l,_,hc,h2,h3⟩
  have:=meetL_nomatch h1 hc
  rw [h2,h3] at this
  cases this
 ·obtain ⟨g1,g2,g3,h4⟩:=meetP_some hm
  have h0 : 0 < m.parts.length:=(patErr_form h4).1
  have hok:=allOk_of h4
  have hml:=fun (l : List Str) (hc : l.all comp = true)=>meetL_match (allOk_of g1) (allOk_of g2) g3 hc
  simp only
  rw [bne_eq_false_iff_eq,zero_iff h0]
  constructor
  ·rintro H n ⟨l0,e0,hc0,h2,h3⟩
   have hm0 : matchL m l0 = true:=by rw [hml l0 hc0,h2,h3];rfl
   have hr:=(matchL_true.1 hm0).1
   rw [e0] at hr
   have hf:=H n hr
   rw [full_any,List.any_eq_true] at hf
   obtain ⟨h,hh,hf⟩:=hf
   exact ⟨h,hh,fun l ⟨e,hc,k2,k3⟩=>(full_one hok hr).1 hf l e hc (by rw [hml l hc,k2,k3];rfl)⟩
  ·intro H n hr
   obtain ⟨l0,e0,hc0,hm0⟩:=some_path hok hr
   have hm0':=hm0
   rw [hml l0 hc0,Bool.and_eq_true] at hm0'
   obtain ⟨h,hh,hf⟩:=H n ⟨l0,e0,hc0,hm0'⟩
   rw [full_any,List.any_eq_true]
   refine ⟨h,hh,(full_one hok hr).2 fun l e hc hl=>?_⟩
   rw [hml l hc,Bool.and_eq_true] at hl
   exact hf l ⟨e,hc,hl⟩
theorem common_none {a b : Reg} (ha : patErr a.b = 0) (hb : patErr b.b = 0) (h : commonG a b = false) {l : List Str} (hc : l.all comp = true) : (hasG a l && hasG b l) = false:=by
 rcases hx : hasG a l && hasG b l with _ | _
 ·rfl
 ·exfalso
  rw [Bool.and_eq_true] at hx
  obtain ⟨h1,h2⟩:=hx
  unfold hasG hasL at h1 h2
  rw [Bool.and_eq_true] at h1 h2
  obtain ⟨k,hk,hm⟩:=(commonG_false ha hb).1 h l.length ⟨l,rfl,hc,h1.1,h2.1⟩
  have hkl:=hm l ⟨rfl,hc,h1.1,h2.1⟩
  rcases List.mem_append.1 hk with hk | hk
  ·have:=h1.2
   simp only [Bool.not_eq_true',List.any_eq_false] at this
   exact this k hk hkl
  ·have:=h2.2
   simp only [Bool.not_eq_true',List.any_eq_false] at this
   exact this k hk hkl
end Go.Proofs.YtnlnclefedohkaaGreatDoor.Sy
set_option linter.unusedVariables false
set_option linter.unusedSimpArgs false
namespace Go.Proofs.YtnlnclefedohkaaGreatDoor.Sy
def fwdM (m : List Ent) (s : Str) : Option Str:=match pathOf s with
 |none=>none
 |some l=>(m.find? fun x=>hasG x.reg l).map fun x=>pathStr (trL x.left x.right l)
def invOf (x : Ent) : Option Ent:=match rightG x with
 |none=>none
 |some g=>if leastLen x.right (redL x.right g.hs) = 0 then none else some ⟨x.right,x.left,redL x.right g.hs⟩
def invE (m : List Ent) : List Ent × Int:=if (mapE m).2 ≠ 0 then ([],(mapE m).2) else (m.filterMap invOf,0)

/-! ### lists of which no two have it -/
def Apart {α : Type} (p : α → Bool) (m : List α) : Prop:=∀ (i j : Nat) x y,m[i]? = some x → m[j]? = some y → j < i → (p x && p y) = false
theorem Apart.tail {α : Type} {p : α → Bool} {a : α} {m : List α} (h : Apart p (a :: m)) : Apart p m:=fun i j x y hi hj hji=>h (i + 1) (j + 1) x y (by simpa using hi) (by simpa using hj) (by omega)
theorem Apart.count {α : Type} {p : α → Bool} : ∀ {m : List α},Apart p m → m.countP p ≤ 1
 |[],_=>by simp
 |a :: m,h=>by
  have ih:=h.tail.count
  rw [List.countP_cons]
  rcases ha : p a with _ | _
  ·simpa using ih
  ·have h0 : m.countP p = 0:=by
    rw [List.countP_eq_zero]
    intro x hx
    obtain ⟨j,hj,e⟩:=List.mem_iff_getElem.1 hx
    have:=h (j + 1) 0 x a (by simp [List.getElem?_eq_getElem hj,e]) (by simp) (by omega)
    rw [ha,Bool.and_true] at this
    rw [this]
    simp
   rw [h0]
   simp
theorem Apart.find {α : Type} {p : α → Bool} {m : List α} (h : Apart p m) {x : α} (hx : x ∈ m) (hp : p x = true) : m.find? p = some x:=by
 obtain ⟨i,hi,e⟩:=List.mem_iff_getElem.1 hx
 have hix : m[i]? = some x:=by rw [List.getElem?_eq_getElem hi,e]
 rw [List.find?_eq_some_iff_getElem]
 refine ⟨hp,i,hi,e,fun j hj=>?_⟩
 have:=h i j x m[j] hix (List.getElem?_eq_getElem (by omega)) hj
 rw [hp,Bool.true_and] at this
 rw [this]
 rfl

/-! ### forth and back -/
theorem Mapping.left_apart {m : List Ent} (h : Mapping m) {l : List Str} (hc : l.all comp = true) : Apart (fun x : Ent=>hasG x.reg l) m:=fun i j x y hi hj hji=>by
 have hcl:=h.apart i j x y hi hj hji
 unfold clashE at hcl
 rw [Bool.or_eq_false_iff] at hcl
 have hx:=h.good x (List.mem_of_getElem? hi)
 have hy:=h.good y (List.mem_of_getElem? hj)
 exact common_none (a:=x.reg) (b:=y.reg) (gErr_zero hx.2).1 (gErr_zero hy.2).1 hcl.1 hc
end Go.Proofs.YtnlnclefedohkaaGreatDoor.Sy
set_option linter.unusedVariables false
set_option linter.unusedSimpArgs false
namespace Go.Proofs.YtnlnclefedohkaaGreatDoor.Sy

end Go.Proofs.YtnlnclefedohkaaGreatDoor.Sy
set_option linter.unusedVariables false
set_option linter.unusedSimpArgs false
namespace Go.Proofs.YtnlnclefedohkaaGreatDoor.Sy
def putH (n : Rule) (hs : List Pat) : Option (Option Ent):=
 if 64 < (redL n.left hs).length then none else if leastLen n.left (redL n.left hs) = 0 then some none else some (some ⟨n.left,n.right,redL n.left hs⟩)
end Go.Proofs.YtnlnclefedohkaaGreatDoor.Sy
set_option linter.unusedVariables false
set_option linter.unusedSimpArgs false
namespace Go.Proofs.YtnlnclefedohkaaGreatDoor
open Go Go.RowKit Sy
def RdEnd (b : Pat) (ps : List Pat) (B : Nat) (e : Ending) (w' : World) : Prop:=if 64 < (redL b ps).length then e = .returned (.tuple #[.agg #[.slice none 0 0,.bool false,.slice none 0 0],.bool false,.int .i64 72]) else
 ∃ A2 c2 HA2 hc2,e = .returned (.tuple #[.agg #[.slice A2 b.parts.length c2,.bool b.rest,.slice HA2 (redL b ps).length hc2],.bool (!(leastLen b (redL b ps) == 0)),.int .i64 0]) ∧ NewS w' B A2 c2 b.parts ∧ PatsN w' B HA2 hc2 (redL b ps)
def PutEnd (w0 w' : World) (G : Nat) (es : List Ent) (n : Rule) (ps : List Pat) (e : Ending) : Prop:=match putH n ps with
 |none=>e = .returned (.int .i64 72) ∧ ColA w0 w' G es
 |some none=>e = .returned (.int .i64 0) ∧ ColA w0 w' G es
 |some (some x)=>e = .returned (.int .i64 0) ∧ ColA w0 w' G (es ++ [x])
theorem putH_far {n : Rule} {ps : List Pat} (h : 64 < (redL n.left ps).length) : putH n ps = none:=by rw [putH,if_pos h]
theorem putH_void {n : Rule} {ps : List Pat} (h : ¬ 64 < (redL n.left ps).length) (h2 : leastLen n.left (redL n.left ps) = 0) : putH n ps = some none:=by rw [putH,if_neg h,if_pos h2]
theorem putH_one {n : Rule} {ps : List Pat} (h : ¬ 64 < (redL n.left ps).length) (h2 : leastLen n.left (redL n.left ps) ≠ 0) : putH n ps = some (some ⟨n.left,n.right,redL n.left ps⟩):=by rw [putH,if_neg h,if_neg h2]
set_option maxHeartbeats 8000000 in
theorem put_k (w0 wq w : World) (G : Nat) (es : List Ent) (n : Rule) (ps : List Pat) (a : Pl) (ex : Bool) (nl nr N pc : Nat) (lr rr : Bool) (PA : Option Addr) (h : ColA w0 wq G es) (hq : Calm wq w) (hL : PatA w a.AL a.cl n.left) (hR : PatA w a.AR a.cr n.right) (hnl : n.left.parts.length = nl) (hnr : n.right.parts.length = nr) (hlr : n.left.rest = lr) (hrr : n.right.rest = rr)
  (KRd : ∀ W,Calm w W → Calls Tryz.prog 35 #[.agg #[.slice a.AL nl a.cl,.bool lr],.slice PA N pc] W fun e w'=>RdEnd n.left ps W.heap.size e w' ∧ Calm W w') :
  Calls Tryz.prog 25 #[.pointer (some ⟨G,0,none⟩),.agg #[.bool ex,.slice a.AL nl a.cl,.bool lr,.slice a.AR nr a.cr,.bool rr],.slice PA N pc] w fun e w'=>PutEnd w0 w' G es n ps e ∧ FrB w w' wq.heap.size:=by
 obtain ⟨w1,hw1⟩ : ∃ w1,w1 = w.alloc (.cells #[.bool ex,.slice a.AL nl a.cl,.bool lr,.slice a.AR nr a.cr,.bool rr] 52):=⟨_,rfl⟩
 obtain ⟨B,hB⟩ : ∃ B,w.heap.size = B:=⟨_,rfl⟩
 have hc1 : Calm w w1:=by rw [hw1];exact (Calm.refl w).alloc _
 have hb1 : FiveB w1 B (.bool ex) (.slice a.AL nl a.cl) (.bool lr) (.slice a.AR nr a.cr) (.bool rr):=by
  rw [hw1,← hB]
  exact FiveB.new w _ _ _ _ _ _
 have hBw : w1.heap.size = B + 1:=by rw [hw1,← hB];simp
 obtain ⟨gm,hgm⟩ : ∃ gm,(redL n.left ps).length = gm:=⟨_,rfl⟩
 have KR0:=KRd w1 hc1
 unfold RdEnd at KR0
 rw [hgm,hnl,hlr,hBw] at KR0
 have HH:=Lib.hid h
 have HQ0:=Lib.hid hq
 have hGq:=h.lt
 have HW:=Lib.hid hw1
 have HC:=Lib.hid hc1
 have HB:=Lib.hid hb1
 have HBs:=Lib.hid hB
 by_cases h64 : 64 < gm
 ·simp only [if_pos h64] at KR0
  have HP : Hid (putH n ps = none):=putH_far (by rw [hgm];exact h64)
  have HK:=Lib.hid KR0
  clear h hq hL hR hnl hnr hlr hrr KRd hw1 hB hc1 hb1 hBw hgm KR0 h64
  go_enter Tryz.func25,Tryz.ntmps25
  go_wp2_with fail
  rw [← HW.out]
  refine HK.out.mono ?_
  rintro e w3 ⟨rfl,hc3⟩
  have HC3 : Hid (Calm w w3):=HC.out.trans hc3
  clear hc3
  go_wp2_with fail
  go_ret
  refine ⟨?_,fun b hb hbs=>(HC3.out.alloc _).block b hbs⟩
  unfold PutEnd
  rw [HP.out]
  exact ⟨rfl,HH.out.to (HQ0.out.trans (HC3.out.alloc _))⟩
 ·simp only [if_neg h64] at KR0
  obtain ⟨vz,hvz⟩ : ∃ vz,(leastLen n.left (redL n.left ps) == 0) = vz:=⟨_,rfl⟩
  simp only [hvz] at KR0
  cases vz with
  |true=>
   have HP : Hid (putH n ps = some none):=putH_void (by rw [hgm];exact h64) (by simpa using hvz)
   have HK:=Lib.hid KR0
   clear h hq hL hR hnl hnr hlr hrr KRd hw1 hB hc1 hb1 hBw hgm KR0 h64 hvz
   go_enter Tryz.func25,Tryz.ntmps25
   go_wp2_with fail
   rw [← HW.out]
   refine HK.out.mono ?_
   rintro e w3 ⟨⟨A2,c2,HA2,hc2,rfl,hS,hQ⟩,hc3⟩
   have HC3 : Hid (Calm w w3):=HC.out.trans hc3
   clear hc3 hS hQ
   go_wp2_with fail
   go_ret
   refine ⟨?_,fun b hb hbs=>(HC3.out.alloc _).block b hbs⟩
   unfold PutEnd
   rw [HP.out]
   exact ⟨rfl,HH.out.to (HQ0.out.trans (HC3.out.alloc _))⟩
  |false=>
   have HP : Hid (putH n ps = some (some ⟨n.left,n.right,redL n.left ps⟩)):=putH_one (by rw [hgm];exact h64) (by simpa using hvz)
   have HK:=Lib.hid KR0
   have HN:=Lib.hid (And.intro hnl (And.intro hnr (And.intro hlr (And.intro hrr hgm))))
   have HPs:=Lib.hid (And.intro hL hR)
   have KCp : Hid (∀ W,Calm w1 W → Calls Tryz.prog 56 #[.agg #[.slice a.AR nr a.cr,.bool rr]] W fun e w'=>(∃ A c,e = .returned (.agg #[.slice A nr c,.bool rr]) ∧ NewS w' W.heap.size A c n.right.parts) ∧ Calm W w'):=fun W hW=>by
    have:=copy_c n.right a.AR a.cr W (hR.r.calm (hc1.trans hW)).toU
    unfold CopyEnd at this
    rw [hnr,hrr] at this
    exact this
   have HBw:=Lib.hid hBw
   have HGB : Hid (G < B):=by
    show G < B
    rw [← hB]
    exact Nat.lt_of_lt_of_le h.lt hq.size
   have HH64:=Lib.hid h64
   clear h hq hL hR hnl hnr hlr hrr KRd hw1 hB hc1 hb1 hBw hgm KR0 h64 hvz
   go_enter Tryz.func25,Tryz.ntmps25
   go_wp2_with fail
   rw [← HW.out,HBs.out]
   refine HK.out.mono ?_
   rintro e w3 ⟨⟨A2,c2,HA2,hc2,rfl,hS,hQ⟩,hc3⟩
   obtain ⟨w4,hw4⟩ : ∃ w4,w4 = w3.alloc (.cells #[.slice A2 nl c2,.bool lr,.slice HA2 gm hc2] 68):=⟨_,rfl⟩
   obtain ⟨D,hD⟩ : ∃ D,w3.heap.size = D:=⟨_,rfl⟩
   have hc4 : Calm w3 w4:=by
    show Below _ _ _
    rw [hw4]
    exact (Calm.refl _).alloc _
   have hg4 : RgB w4 D (.slice A2 nl c2) (.bool lr) (.slice HA2 gm hc2):=by rw [hw4,← hD];exact RgB.new w3 _ _ _
   have HS4 : Hid (NewS w4 (B + 1) A2 c2 n.left.parts):=hS.calm hc4
   have HQ4 : Hid (PatsN w4 (B + 1) HA2 hc2 (redL n.left ps)):=hQ.calm hc4
   have HC14 : Hid (Calm w1 w4):=Calm.trans hc3 hc4
   have HBD : Hid (B < D):=by
    show B < D
    have h1:=hc3.size
    have h2:=HBw.out
    omega
   have HB4 : Hid (FiveB w4 B (.bool ex) (.slice a.AL nl a.cl) (.bool lr) (.slice a.AR nr a.cr) (.bool rr)):=HB.out.calm HC14.out
   have HG4:=Lib.hid hg4
   have HC04 : Hid (Calm w w4):=HC.out.trans HC14.out
   have HW4:=Lib.hid hw4
   have HDs:=Lib.hid hD
   have HBsz : Hid (B + 1 ≤ w4.heap.size):=by
    show B + 1 ≤ w4.heap.size
    have h1:=HC14.out.size
    have h2:=HBw.out
    omega
   clear hS hQ hc3 hc4 hg4 hw4 hD
   go_wp2_with fail
   rw [← HW4.out,HDs.out]
   have HK5 : Hid (∀ W : World,Calm w4 W → W.cell? ⟨D,0,none⟩ = some (.slice A2 nl c2) ∧ W.cell? ⟨D,1,none⟩ = some (.bool lr) ∧ W.cell? ⟨D,2,none⟩ = some (.slice HA2 gm hc2) ∧ W.cell? ⟨B,3,none⟩ = some (.slice a.AR nr a.cr) ∧ W.cell? ⟨B,4,none⟩ = some (.bool rr)):=fun W hW=>
    ⟨(HG4.out.calm hW).c0,(HG4.out.calm hW).c1,(HG4.out.calm hW).c2,(HB4.out.calm hW).c3,(HB4.out.calm hW).c4⟩
   have HFr : Hid (∀ W W' : World,Calm w4 W → FrB W W' wq.heap.size → W'.cell? ⟨D,0,none⟩ = some (.slice A2 nl c2) ∧ W'.cell? ⟨D,1,none⟩ = some (.bool lr) ∧ W'.cell? ⟨D,2,none⟩ = some (.slice HA2 gm hc2) ∧ W'.cell? ⟨B,3,none⟩ = some (.slice a.AR nr a.cr) ∧ W'.cell? ⟨B,4,none⟩ = some (.bool rr)):=fun W W' hW hf=>by
    have hd:=(HG4.out.calm hW)
    have hb:=(HB4.out.calm hW)
    have hbd:=HBD.out
    have hbs:=HBs.out
    have hqs:=HQ0.out.size
    have e1:=hf D (by omega) hd.lt
    have e2:=hf B (by omega) hb.lt
    exact ⟨(World.cell?_of_block (a:=⟨D,0,none⟩) e1).trans hd.c0,(World.cell?_of_block (a:=⟨D,1,none⟩) e1).trans hd.c1,(World.cell?_of_block (a:=⟨D,2,none⟩) e1).trans hd.c2,(World.cell?_of_block (a:=⟨B,3,none⟩) e2).trans hb.c3,(World.cell?_of_block (a:=⟨B,4,none⟩) e2).trans hb.c4⟩
   have KA : Hid (∀ W A9 c9,Calm w4 W → NewS W (B + 1) A9 c9 n.right.parts → Calls Tryz.prog 55 #[.pointer (some ⟨G,0,none⟩),.agg #[.slice A2 nl c2,.bool lr,.slice A9 nr c9,.bool rr,.slice HA2 gm hc2]] W fun e w'=>e = .returned (.tuple #[]) ∧ ColA w0 w' G (es ++ [⟨n.left,n.right,redL n.left ps⟩]) ∧ FrB W w' wq.heap.size):=fun W A9 c9 hW h9=>by
    have hgb:=HGB.out
    refine addE_a w0 wq W G es ⟨A2,c2,A9,c9,HA2,hc2,⟨n.left,n.right,redL n.left ps⟩⟩ nl nr gm lr rr HH.out (HQ0.out.trans (HC04.out.trans hW)) ⟨⟨(HS4.out.calm hW).mono (by omega),HPs.out.1.r.len,HPs.out.1.r.each⟩,⟨h9.mono (by omega),HPs.out.2.r.len,HPs.out.2.r.each⟩,(HQ4.out.calm hW).mono (by omega),?_⟩ HN.out.1 HN.out.2.1 HN.out.2.2.2.2 HN.out.2.2.1 HN.out.2.2.2.1
    have h1:=HH64.out
    have h2:=HN.out.2.2.2.2
    show (redL n.left ps).length ≤ 16384
    omega
   go_region_held3 (fun W=>W.cell? ⟨D,0,none⟩ = some (.slice A2 nl c2) ∧ W.cell? ⟨D,1,none⟩ = some (.bool lr) ∧ W.cell? ⟨D,2,none⟩ = some (.slice HA2 gm hc2) ∧ W.cell? ⟨B,3,none⟩ = some (.slice a.AR nr a.cr) ∧ W.cell? ⟨B,4,none⟩ = some (.bool rr))
    (first
     |exact HK5.out _ (Calm.refl _)
     |exact HK5.out _ (Below.drew (Calm.refl _))
     |exact HK5.out _ hc48
     |exact HK5.out _ (Below.drew hc48)
     |exact HFr.out _ _ hc48 hf9
     |exact HFr.out _ _ (Below.drew hc48) hf9
     |go_keep)
    (first
     |(go_at_call 56;first
       |(refine (KCp.out _ (HC14.out.trans (Calm.refl _))).mono ?_;rintro e w8 ⟨⟨A9,c9,rfl,hN9⟩,hc8⟩;have hc48 : Calm w4 w8:=hc8;have hN9' : NewS w8 (B + 1) A9 c9 n.right.parts:=hN9.mono HBsz.out)
       |(refine (KCp.out _ (HC14.out.trans (Below.drew (Calm.refl _)))).mono ?_;rintro e w8 ⟨⟨A9,c9,rfl,hN9⟩,hc8⟩;have hc48 : Calm w4 w8:=(Below.drew (Calm.refl _)).trans hc8;have hN9' : NewS w8 (B + 1) A9 c9 n.right.parts:=hN9.mono HBsz.out))
     |(go_at_call 55;refine (KA.out _ _ _ hc48 hN9').mono ?_;rintro e w9 ⟨rfl,hCol9,hf9⟩))
   all_goals
    have HCl:=Lib.hid hCol9
    have HFin : Hid (FrB w w9 wq.heap.size):=fun b hb hbs=>by
     have h1:=HC04.out
     first
      |exact (hf9 b hb (Nat.lt_of_lt_of_le hbs (h1.trans hc48).size)).trans ((h1.trans hc48).block b hbs)
      |exact (hf9 b hb (Nat.lt_of_lt_of_le hbs (h1.trans (Below.drew hc48)).size)).trans ((h1.trans (Below.drew hc48)).block b hbs)
    go_wp2_with fail
    go_ret
    refine ⟨?_,HFin.out⟩
    unfold PutEnd
    rw [HP.out]
    exact ⟨rfl,HCl.out⟩
end Go.Proofs.YtnlnclefedohkaaGreatDoor
