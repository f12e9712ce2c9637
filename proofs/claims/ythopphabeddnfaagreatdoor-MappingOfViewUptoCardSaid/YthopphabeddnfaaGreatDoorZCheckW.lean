/- Walk: mapping.Check. -/
import Derived.Laws.MakeOwn
import Derived.BigQuiet
import Derived.Test.YthopphabeddnfaaGreatDoorZRegB
import Derived.Test.YthopphabeddnfaaGreatDoorZMapA
import Derived.Test.YthopphabeddnfaaGreatDoorZRightW
import Derived.Test.YthopphabeddnfaaGreatDoorZCommonP
import Derived.Test.YthopphabeddnfaaGreatDoorZStr
set_option linter.unusedVariables false
set_option linter.unusedSimpArgs false
namespace Go.Proofs.YthopphabeddnfaaGreatDoor
open Go Go.RowKit Sy

theorem mapE_idx {m : List Ent} {k : Nat} {x : Ent} (hk : m[k]? = some x) (hx : entryOk x = false) (hall : ∀ j q,j < k → m[j]? = some q → entryOk q = true) : mapE m = (k,70):=by
 have h : m.findIdx? (fun x=>!entryOk x) = some k:=by
  obtain ⟨hlt,rfl⟩:=List.getElem?_eq_some_iff.1 hk
  rw [List.findIdx?_eq_some_iff_getElem]
  exact ⟨hlt,by simp [hx],fun j hj=>by simp [hall j _ hj (List.getElem?_eq_getElem (by omega))]⟩
 unfold mapE
 rw [h]
theorem mapE_not {m : List Ent} (hall : ∀ j q,j < m.length → m[j]? = some q → entryOk q = true) : m.findIdx? (fun x=>!entryOk x) = none:=by
 rw [List.findIdx?_eq_none_iff]
 intro x hx
 obtain ⟨j,hj,e⟩:=List.mem_iff_getElem.1 hx
 simp [hall j x hj (by rw [List.getElem?_eq_getElem hj,e])]
theorem mapE_long {m : List Ent} (hall : ∀ j q,j < m.length → m[j]? = some q → entryOk q = true) (hl : 32 < m.length) : mapE m = (0,72):=by
 unfold mapE
 rw [mapE_not hall]
 simp only
 rw [if_pos hl]
theorem mapE_big {m : List Ent} (hall : ∀ j q,j < m.length → m[j]? = some q → entryOk q = true) {k : Nat} {x : Ent} (hk : m[k]? = some x) (hx : rightHs x.rule x.hs = none) : mapE m = (0,72):=by
 unfold mapE
 rw [mapE_not hall]
 simp only
 split
 ·rfl
 ·rw [if_pos]
  rw [List.any_eq_true]
  exact ⟨x,List.mem_of_getElem? hk,by simp [rightG,hx]⟩
theorem mapE_find {m : List Ent} (hall : ∀ j q,j < m.length → m[j]? = some q → entryOk q = true) (hl : m.length ≤ 32) (hr : ∀ j q,j < m.length → m[j]? = some q → ∃ ks,rightHs q.rule q.hs = some ks) : mapE m = match (List.range m.length).find? (clashAt m) with
  |some i=>(i,71)
  |none=>(0,0):=by
 have h0 : ¬ m.any (fun x=>(rightG x).isNone) = true:=by
  rw [List.any_eq_true]
  rintro ⟨x,hx,hn⟩
  obtain ⟨j,hj,e⟩:=List.mem_iff_getElem.1 hx
  obtain ⟨ks,hk⟩:=hr j x hj (by rw [List.getElem?_eq_getElem hj,e])
  simp [rightG,hk] at hn
 unfold mapE
 rw [mapE_not hall]
 simp only
 rw [if_neg (by omega),if_neg h0]
 rfl
theorem mapE_over {m : List Ent} (hall : ∀ j q,j < m.length → m[j]? = some q → entryOk q = true) (hl : m.length ≤ 32) (hr : ∀ j q,j < m.length → m[j]? = some q → ∃ ks,rightHs q.rule q.hs = some ks) {k : Nat} (hk : k < m.length) (hc : clashAt m k = true) (hp : ∀ j,j < k → clashAt m j = false) : mapE m = (k,71):=by
 have h : (List.range m.length).find? (clashAt m) = some k:=by
  rw [List.find?_range_eq_some]
  exact ⟨hc,by simpa using hk,fun j hj=>by simp [hp j hj]⟩
 rw [mapE_find hall hl hr,h]
theorem mapE_fine {m : List Ent} (hall : ∀ j q,j < m.length → m[j]? = some q → entryOk q = true) (hl : m.length ≤ 32) (hr : ∀ j q,j < m.length → m[j]? = some q → ∃ ks,rightHs q.rule q.hs = some ks) (hp : ∀ j,j < m.length → clashAt m j = false) : mapE m = (0,0):=by
 have h : (List.range m.length).find? (clashAt m) = none:=by
  rw [List.find?_eq_none]
  intro j hj
  simp [hp j (List.mem_range.1 hj)]
 rw [mapE_find hall hl hr,h]
theorem clashAt_true {m : List Ent} {k j : Nat} {x y : Ent} (hk : m[k]? = some x) (hj : m[j]? = some y) (hlt : j < k) (hc : clashE x y = true) : clashAt m k = true:=by
 unfold clashAt
 rw [List.any_eq_true]
 exact ⟨j,List.mem_range.2 hlt,by rw [getD_of hk,getD_of hj];exact hc⟩
theorem clashAt_false {m : List Ent} {k : Nat} {x : Ent} (hk : m[k]? = some x) (hall : ∀ j y,j < k → m[j]? = some y → clashE x y = false) : clashAt m k = false:=by
 unfold clashAt
 rw [List.any_eq_false]
 intro j hj
 have hlt:=List.mem_range.1 hj
 have hkl:=(List.getElem?_eq_some_iff.1 hk).1
 have hjy:=List.getElem?_eq_getElem (l:=m) (i:=j) (by omega)
 rw [getD_of hk,getD_of hjy,hall j _ hlt hjy]
 simp
theorem clashE_of {x y : Ent} {ks ls : List Pat} (hx : rightHs x.rule x.hs = some ks) (hy : rightHs y.rule y.hs = some ls) : clashE x y = (commonG x.reg y.reg || commonG ⟨x.right,ks⟩ ⟨y.right,ls⟩):=by
 unfold clashE rG rightG
 rw [hx,hy]
 rfl
structure Rts (w0 wx : World) (R n : Nat) (es : List Ent) (k : Nat) : Prop where
 calm : Calm w0 wx
 ge : w0.heap.size ≤ R
 kind : ∃ cs,wx.heap[R]? = some (.cells cs 48 (0,0)) ∧ cs.size = n * 3
 done : ∀ j x,j < k → es[j]? = some x → ∃ ks RA rc KA kc,rightHs x.rule x.hs = some ks ∧ wx.cell? ⟨R,j * 3,none⟩ = some (.slice RA x.right.parts.length rc) ∧ wx.cell? ⟨R,j * 3 + 1,none⟩ = some (.bool x.right.rest) ∧ wx.cell? ⟨R,j * 3 + 2,none⟩ = some (.slice KA ks.length kc) ∧ PatA w0 RA rc x.right ∧ PatsN wx (R + 1) KA kc ks
theorem Rts.lt {w0 wx : World} {R n : Nat} {es : List Ent} {k : Nat} (h : Rts w0 wx R n es k) : R < wx.heap.size:=by
 obtain ⟨cs,hh,_⟩:=h.kind
 exact heap_lt hh
theorem Rts.to {w0 wx wy : World} {R n : Nat} {es : List Ent} {k : Nat} (h : Rts w0 wx R n es k) (hc : Calm wx wy) : Rts w0 wy R n es k:=by
 refine ⟨h.calm.trans hc,h.ge,?_,fun j x hj hx=>?_⟩
 ·obtain ⟨cs,hh,hs⟩:=h.kind
  exact ⟨cs,(hc.block _ h.lt).trans hh,hs⟩
 ·obtain ⟨ks,RA,rc,KA,kc,h1,h2,h3,h4,h5,h6⟩:=h.done j x hj hx
  exact ⟨ks,RA,rc,KA,kc,h1,hc.at_ h2 h.lt,hc.at_ h3 h.lt,hc.at_ h4 h.lt,h5,h6.calm hc⟩
def setR (w : World) (R o : Nat) (u0 u1 u2 : Value) : World:=((w.setCell ⟨R,o,none⟩ u0).setCell ⟨R,o + 1,none⟩ u1).setCell ⟨R,o + 2,none⟩ u2
theorem Rts.step {w0 wx : World} {R n : Nat} {es : List Ent} {k : Nat} (h : Rts w0 wx R n es k) {x : Ent} (hx : es[k]? = some x) (hkn : k < n) {ks : List Pat} {RA : Option Addr} {rc : Nat} {KA : Option Addr} {kc : Nat} (hr : rightHs x.rule x.hs = some ks) (hp : PatA w0 RA rc x.right) (hh : PatsN wx (R + 1) KA kc ks) :
  Rts w0 (setR wx R (k * 3) (.slice RA x.right.parts.length rc) (.bool x.right.rest) (.slice KA ks.length kc)) R n es (k + 1):=by
 obtain ⟨cs,hb,hs⟩:=h.kind
 have hget : ∀ o,o < n * 3 → (wx.cell? ⟨R,o,none⟩).isSome = true:=fun o ho=>by
  have hlt : o < cs.size:=by omega
  simp [World.cell?,hb,hlt]
 refine ⟨Below.setCell (Below.setCell (Below.setCell h.calm h.ge _) h.ge _) h.ge _,h.ge,?_,fun j y hj hy=>?_⟩
 ·exact ⟨((cs.setIfInBounds (k * 3) (.slice RA x.right.parts.length rc)).setIfInBounds (k * 3 + 1) (.bool x.right.rest)).setIfInBounds (k * 3 + 2) (.slice KA ks.length kc),by simp [setR,World.setCell,Array.getElem?_modify,hb],by simpa using hs⟩
 ·rcases Nat.lt_or_ge j k with hjk | hjk
  ·obtain ⟨ls,RA',rc',KA',kc',h1,h2,h3,h4,h5,h6⟩:=h.done j y hjk hy
   refine ⟨ls,RA',rc',KA',kc',h1,?_,?_,?_,h5,?_⟩
   ·rw [setR,World.cell?_setCell_other _ _ _ _ (by first | (simp;done) | (simp;omega)),World.cell?_setCell_other _ _ _ _ (by first | (simp;done) | (simp;omega)),World.cell?_setCell_other _ _ _ _ (by first | (simp;done) | (simp;omega))]
    exact h2
   ·rw [setR,World.cell?_setCell_other _ _ _ _ (by first | (simp;done) | (simp;omega)),World.cell?_setCell_other _ _ _ _ (by first | (simp;done) | (simp;omega)),World.cell?_setCell_other _ _ _ _ (by first | (simp;done) | (simp;omega))]
    exact h3
   ·rw [setR,World.cell?_setCell_other _ _ _ _ (by first | (simp;done) | (simp;omega)),World.cell?_setCell_other _ _ _ _ (by first | (simp;done) | (simp;omega)),World.cell?_setCell_other _ _ _ _ (by first | (simp;done) | (simp;omega))]
    exact h4
   ·exact ((h6.set _ (Nat.lt_succ_self R)).set _ (Nat.lt_succ_self R)).set _ (Nat.lt_succ_self R)
  ·obtain rfl : j = k:=by omega
   obtain rfl : x = y:=by rw [hx] at hy;exact Option.some.inj hy
   refine ⟨ks,RA,rc,KA,kc,hr,?_,?_,?_,hp,?_⟩
   ·rw [setR,World.cell?_setCell_other _ _ _ _ (by simp),World.cell?_setCell_other _ _ _ _ (by simp)]
    exact World.cell?_setCell_same' _ _ _ (hget _ (by omega))
   ·rw [setR,World.cell?_setCell_other _ _ _ _ (by simp)]
    exact World.cell?_setCell_same' _ _ _ (by rw [World.cell?_setCell_other _ _ _ _ (by simp)];exact hget _ (by omega))
   ·exact World.cell?_setCell_same' _ _ _ (by rw [World.cell?_setCell_other _ _ _ _ (by simp),World.cell?_setCell_other _ _ _ _ (by simp)];exact hget _ (by omega))
   ·exact ((hh.set _ (Nat.lt_succ_self R)).set _ (Nat.lt_succ_self R)).set _ (Nat.lt_succ_self R)
end Go.Proofs.YthopphabeddnfaaGreatDoor
set_option linter.unusedVariables false
set_option linter.unusedSimpArgs false
namespace Go.Proofs.YthopphabeddnfaaGreatDoor
open Go Go.RowKit Sy

theorem info_regC : (Tryz.prog.info? 48).map (fun i=>(i.zero,i.size,i.bytes)) = some (some (.agg #[.slice none 0 0,.bool false,.slice none 0 0]),3,56):=by kernel_rfl
theorem make_rgs (n : Nat) (hn : n ≤ 100000) : ∀ w : World,(Instr.makeSlice 53 (.int .i64 (n : Int)) (.int .i64 (n : Int))).run Tryz.prog w = .ok (.slice (some ⟨w.heap.size,0,none⟩) n n) (w.alloc (.cells (madeCells #[.slice none 0 0,.bool false,.slice none 0 0] (n * 3)) 48)):=by
 intro w
 obtain ⟨i0,hi0,hz0,hz1,hz2⟩:=info_parts info_regC
 have hb : (i0.bytes : Int) * (n : Int) ≤ 281474976710656:=by rw [hz2];omega
 have hr:=run_make (P:=Tryz.prog) w 53 48 i0 _ Tryz.underlying53 hi0 hz0 .i64 .i64 (n : Int) (n : Int) (by omega) (by omega) hb (by omega)
 rw [hz1] at hr
 simp only [Int.toNat_natCast] at hr
 exact hr
theorem rts_made {w0 w : World} (hc : Calm w0 w) (n : Nat) (es : List Ent) : Rts w0 (w.alloc (.cells (madeCells #[.slice none 0 0,.bool false,.slice none 0 0] (n * 3)) 48)) w.heap.size n es 0:=
 ⟨hc.alloc _,hc.size,⟨_,heap_alloc_new w _,size_madeCells _ _⟩,fun j x hj=>absurd hj (Nat.not_lt_zero _)⟩

theorem clashStep {es : List Ent} {k : Nat} (hk : clashAt es k = false) (h : ∀ j,j < k → clashAt es j = false) : ∀ j,j < k + 1 → clashAt es j = false:=fun j hj=>by
 rcases Nat.lt_or_ge j k with hjk | hjk
 ·exact h j hjk
 ·obtain rfl : j = k:=by omega
  exact hk
theorem okStep {es : List Ent} {k : Nat} {x : Ent} (hk : es[k]? = some x) (hx : entryOk x = true) (h : ∀ j q,j < k → es[j]? = some q → entryOk q = true) : ∀ j q,j < k + 1 → es[j]? = some q → entryOk q = true:=fun j q hj hq=>by
 rcases Nat.lt_or_ge j k with hjk | hjk
 ·exact h j q hjk hq
 ·obtain rfl : j = k:=by omega
  rw [hk] at hq
  exact Option.some.inj hq ▸ hx
set_option maxRecDepth 100000 in
set_option maxHeartbeats 16000000 in
theorem check_c (es : List Ent) (n c : Nat) (A : Option Addr) (w : World) (h : EntsA w A es) (hcn : n ≤ c) (hcc : c ≤ 9223372036854775807) (hs : ∀ x ∈ es,SmallE x) (hn : es.length = n) :
  Calls Tryz.prog 7 #[.slice A n c] w fun e w'=>e = .returned (.tuple #[.int .i64 ((mapE es).1 : Nat),.int .i64 (mapE es).2]) ∧ Calm w w':=by
 have hl : n ≤ 1048576:=by rw [← hn];exact h.1
 have HE:=Lib.hid h
 have HS:=Lib.hid hs
 have HN:=Lib.hid hn
 have hmk:=fun (h : n ≤ 32)=>make_rgs n (by omega)
 have HMk:=Lib.hid hmk
 clear h hs hn hmk
 go_enter Tryz.func7,Tryz.ntmps7
 go_wp2_with fail
 go_loopw [17] (fun u wr=>∃ k : Nat,k ≤ n ∧ u = .int .i64 k ∧ Hid (∀ j q,j < k → es[j]? = some q → entryOk q = true) ∧ Hid (Calm w wr)) (fun u _=>n - (intOf u).toNat)
 case atStart=>exact ⟨0,Nat.zero_le _,rfl,fun j h hj=>absurd hj (Nat.not_lt_zero _),Calm.refl _⟩
 case round=>
  obtain ⟨k,hk,rfl,HI,HCr⟩:=hrel
  obtain ⟨wq,rfl⟩ : ∃ wq,wq = wr:=⟨_,rfl⟩
  by_cases hlt : k < n
  ·obtain ⟨b,o,z,rfl,hb,hz,c0,c1,c2,c3,c4,hu⟩:=(HE.out.calm HCr.out).get (k:=k) (by rw [HN.out];exact hlt)
   obtain ⟨nl,hnl⟩ : ∃ nl,z.e.left.parts.length = nl:=⟨_,rfl⟩
   obtain ⟨nr,hnr⟩ : ∃ nr,z.e.right.parts.length = nr:=⟨_,rfl⟩
   obtain ⟨lr,hlr⟩ : ∃ lr,z.e.left.rest = lr:=⟨_,rfl⟩
   obtain ⟨rr,hrr⟩ : ∃ rr,z.e.right.rest = rr:=⟨_,rfl⟩
   obtain ⟨hn,hhn⟩ : ∃ hn,z.e.hs.length = hn:=⟨_,rfl⟩
   rw [hnl] at c0
   rw [hlr] at c1
   rw [hnr] at c2
   rw [hrr] at c3
   rw [hhn] at c4
   obtain ⟨v,hv⟩ : ∃ v,entryOk z.e = v:=⟨_,rfl⟩
   have KI : Hid (∀ W,Calm wq W → Calls Tryz.prog 18 #[entV z.LA z.RA z.HA nl z.lc nr z.rc hn z.hc lr rr] W fun e w'=>e = .returned (.bool v) ∧ Calm W w'):=fun W hW=>
    hv ▸ isEntry_c z nl nr hn lr rr W (hu.calm hW) hnl hnr hhn hlr hrr
   have HZ:=Lib.hid hz
   have HV:=Lib.hid hv
   obtain ⟨wb,hwb⟩ : ∃ wb,wb = wq.alloc (.cells #[.slice z.LA nl z.lc,.bool lr,.slice z.RA nr z.rc,.bool rr,.slice z.HA hn z.hc] 40):=⟨_,rfl⟩
   have hcb : Calm wq wb:=by
    show Below _ _ _
    rw [hwb]
    exact (Calm.refl _).alloc _
   have HCb:=Lib.hid hcb
   have HWb:=Lib.hid hwb
   clear hz hu hnl hnr hlr hrr hhn hv hcb hwb
   go_wp2_with fail
   rw [← HWb.out]
   refine (KI.out wb HCb.out).mono ?_
   rintro e w3 ⟨rfl,hc3⟩
   have HC3 : Hid (Calm wq w3):=HCb.out.trans hc3
   clear c0 c1 c2 c3 c4 hc3
   cases v with
   |true=>
    go_wp2_with fail
    go_roundw
    case rel=>exact ⟨k + 1,by omega,by go_num,okStep HZ.out HV.out HI.out,HCr.out.trans HC3.out⟩
    case measure=>simp [intOf];omega
   |false=>
    have hE : Hid (mapE es = (k,70)):=mapE_idx HZ.out HV.out HI.out
    go_wp2_with fail
    go_ret2
    exact ⟨by rw [hE.out];rfl,HCr.out.trans HC3.out⟩
  ·obtain rfl : k = n:=by omega
   have hall : Hid (∀ j q,j < es.length → es[j]? = some q → entryOk q = true):=fun j q hj=>HI.out j q (by rw [← HN.out];exact hj)
   by_cases h32 : 32 < k
   ·have hE : Hid (mapE es = (0,72)):=mapE_long hall.out (by rw [HN.out];exact h32)
    go_wp2_with fail
    go_ret2
    exact ⟨by rw [hE.out];rfl,HCr.out⟩
   ·have hmk:=HMk.out (Nat.le_of_not_lt h32)
    go_wp2_with fail
    obtain ⟨R,hR⟩ : ∃ R,wq.heap.size = R:=⟨_,rfl⟩
    obtain ⟨wR,hwR⟩ : ∃ wR,wR = wq.alloc (.cells (madeCells #[.slice none 0 0,.bool false,.slice none 0 0] (k * 3)) 48):=⟨_,rfl⟩
    have HRt : Hid (Rts w wR R k es 0):=by
     show Rts _ _ _ _ _ _
     rw [hwR,← hR]
     exact rts_made HCr.out k es
    rw [← hwR,hR]
    clear hwR hR hmk
    go_loopw [35] (fun u wr=>∃ j : Nat,j ≤ k ∧ u = .int .i64 j ∧ Hid (Rts w wr R k es j)) (fun u _=>k - (intOf u).toNat)
    case atStart=>exact ⟨0,Nat.zero_le _,rfl,HRt.out⟩
    case round=>
     obtain ⟨j,hj,rfl,HT⟩:=hrel
     obtain ⟨wp,rfl⟩ : ∃ wp,wp = wr:=⟨_,rfl⟩
     by_cases hlt2 : j < k
     ·obtain ⟨b,o,z,rfl,hb,hz,c0,c1,c2,c3,c4,hu⟩:=HE.out.get (k:=j) (by rw [HN.out];exact hlt2)
      have c0:=HT.out.calm.at_ c0 hb
      have c1:=HT.out.calm.at_ c1 hb
      have c2:=HT.out.calm.at_ c2 hb
      have c3:=HT.out.calm.at_ c3 hb
      have c4:=HT.out.calm.at_ c4 hb
      have hb:=Nat.lt_of_lt_of_le hb HT.out.calm.size
      obtain ⟨gr,gg⟩:=entryOk_iff.1 (hall.out j z.e (by rw [HN.out];exact hlt2) hz)
      have hs:=HS.out z.e (List.mem_of_getElem? hz)
      have huU:=hu.u hs (by have:=(gErr_zero gg).2.2;show z.e.reg.hs.length ≤ _;omega)
      obtain ⟨nl,hnl⟩ : ∃ nl,z.e.left.parts.length = nl:=⟨_,rfl⟩
      obtain ⟨nr,hnr⟩ : ∃ nr,z.e.right.parts.length = nr:=⟨_,rfl⟩
      obtain ⟨lr,hlr⟩ : ∃ lr,z.e.left.rest = lr:=⟨_,rfl⟩
      obtain ⟨rr,hrr⟩ : ∃ rr,z.e.right.rest = rr:=⟨_,rfl⟩
      obtain ⟨hn,hhn⟩ : ∃ hn,z.e.hs.length = hn:=⟨_,rfl⟩
      rw [hnl] at c0
      rw [hlr] at c1
      rw [hnr] at c2
      rw [hrr] at c3
      rw [hhn] at c4
      have KR0 : Hid (∀ W,Calm wp W → Calls Tryz.prog 19 #[entV z.LA z.RA z.HA nl z.lc nr z.rc hn z.hc lr rr] W fun e w'=>RightEnd z W.heap.size e w' ∧ Calm W w'):=fun W hW=>
       right_c z nl nr hn lr rr z.HA W (huU.calm (HT.out.calm.trans hW)) hs gr gg hnl hnr hhn hlr hrr rfl
      have HZ:=Lib.hid hz
      have HNr:=Lib.hid (And.intro hnr hrr)
      have HPr:=Lib.hid huU.r
      obtain ⟨wb,hwb⟩ : ∃ wb,wb = wp.alloc (.cells #[.slice z.LA nl z.lc,.bool lr,.slice z.RA nr z.rc,.bool rr,.slice z.HA hn z.hc] 40):=⟨_,rfl⟩
      have hcb : Calm wp wb:=by
       show Below _ _ _
       rw [hwb]
       exact (Calm.refl _).alloc _
      have HCb:=Lib.hid hcb
      have HWb:=Lib.hid hwb
      rcases hrh : rightHs z.e.rule z.e.hs with _ | ks
      ·have KR : Hid (∀ W,Calm wp W → Calls Tryz.prog 19 #[entV z.LA z.RA z.HA nl z.lc nr z.rc hn z.hc lr rr] W fun e w'=>e = .returned (.tuple #[.agg #[.slice none 0 0,.bool false,.slice none 0 0],.int .i64 72]) ∧ Calm W w'):=fun W hW=>(KR0.out W hW).mono fun e w' h=>by
        obtain ⟨h1,h2⟩:=h
        unfold RightEnd at h1
        rw [hrh] at h1
        exact ⟨h1,h2⟩
       have hE : Hid (mapE es = (0,72)):=mapE_big hall.out hz hrh
       clear hz hu huU hs gr gg hnl hnr hlr hrr hhn hcb hwb hrh KR0
       go_wp2_with fail
       rw [← HWb.out]
       refine (KR.out wb HCb.out).mono ?_
       rintro e w3 ⟨rfl,hc3⟩
       clear c0 c1 c2 c3 c4
       go_wp2_with fail
       go_ret2
       exact ⟨by rw [hE.out];rfl,HT.out.calm.trans (HCb.out.trans (hc3.trans ((Calm.refl _).alloc _)))⟩
      ·obtain ⟨kn,hkn⟩ : ∃ kn,ks.length = kn:=⟨_,rfl⟩
       have KR : Hid (∀ W,Calm wp W → Calls Tryz.prog 19 #[entV z.LA z.RA z.HA nl z.lc nr z.rc hn z.hc lr rr] W fun e w'=>(∃ KA kc,e = .returned (.tuple #[.agg #[.slice z.RA nr z.rc,.bool rr,.slice KA kn kc],.int .i64 0]) ∧ PatsN w' W.heap.size KA kc ks) ∧ Calm W w'):=fun W hW=>(KR0.out W hW).mono fun e w' h=>by
        obtain ⟨h1,h2⟩:=h
        unfold RightEnd at h1
        rw [hrh] at h1
        simp only [hnr,hrr,hkn] at h1
        exact ⟨h1,h2⟩
       have HRh:=Lib.hid hrh
       have HKn:=Lib.hid hkn
       clear hz hu huU hs gr gg hnl hnr hlr hrr hhn hcb hwb hrh hkn KR0
       go_wp2_with fail
       rw [← HWb.out]
       refine (KR.out wb HCb.out).mono ?_
       rintro e w3 ⟨⟨KA,kc,rfl,hK3⟩,hc3⟩
       clear c0 c1 c2 c3 c4
       have HT3:=Lib.hid (HT.out.to (HCb.out.trans hc3))
       have HK3 : Hid (PatsN w3 (R + 1) KA kc ks):=hK3.mono (Nat.lt_of_lt_of_le HT.out.lt HCb.out.size)
       have hRl:=HT3.out.lt
       have HF : Hid (∀ i,i < k * 3 → (∃ u,w3.cell? ⟨R,i,none⟩ = some u) ∧ w3.frozen? ⟨R,i,none⟩ = false):=fun i hi=>by
        obtain ⟨cs,hh,hcs⟩:=HT3.out.kind
        refine ⟨?_,frozen_of_row w3 R i cs _ hh⟩
        have hlt : i < cs.size:=by omega
        exact ⟨cs[i],by simp [World.cell?,hh,hlt]⟩
       obtain ⟨⟨u0,d0⟩,f0⟩:=HF.out (j * 3) (by omega)
       obtain ⟨⟨u1,d1⟩,f1⟩:=HF.out (j * 3 + 1) (by omega)
       obtain ⟨⟨u2,d2⟩,f2⟩:=HF.out (j * 3 + 2) (by omega)
       clear hK3 hc3
       go_wp2_with fail
       go_roundw
       case rel=>
        have:=HT3.out.step HZ.out hlt2 HRh.out HPr.out HK3.out
        rw [HNr.out.1,HNr.out.2,HKn.out] at this
        exact ⟨j + 1,by omega,by go_num,Lib.hid (this.to ((Calm.refl _).alloc _))⟩
       case measure=>simp [intOf];omega
     ·obtain rfl : k = j:=by omega
      have hrs : Hid (∀ i q,i < es.length → es[i]? = some q → ∃ ks,rightHs q.rule q.hs = some ks):=fun i q hi hq=>by
       obtain ⟨ks,_,_,_,_,h1,_⟩:=HT.out.done i q (by rw [← HN.out];exact hi) hq
       exact ⟨ks,h1⟩
      have h32' : k ≤ 32:=Nat.le_of_not_lt h32
      go_wp2_with fail
      go_loopw [55] (fun u wr=>∃ i : Nat,i ≤ k ∧ u = .int .i64 i ∧ Hid (Calm wp wr) ∧ Hid (∀ j,j < i → clashAt es j = false)) (fun u _=>k - (intOf u).toNat)
      case atStart=>exact ⟨0,Nat.zero_le _,rfl,Calm.refl _,fun j hj=>absurd hj (Nat.not_lt_zero _)⟩
      case round=>
       obtain ⟨i,hi,rfl,HCi,HP⟩:=hrel
       obtain ⟨wi,rfl⟩ : ∃ wi,wi = wr:=⟨_,rfl⟩
       by_cases hlt3 : i < k
       ·obtain ⟨b,o,x,rfl,hb,hx,c0,c1,c2,c3,c4,hux⟩:=HE.out.get (k:=i) (by rw [HN.out];exact hlt3)
        have HCwi : Hid (Calm w wi):=HT.out.calm.trans HCi.out
        have c0:=HCwi.out.at_ c0 hb
        have c1:=HCwi.out.at_ c1 hb
        have c2:=HCwi.out.at_ c2 hb
        have c3:=HCwi.out.at_ c3 hb
        have c4:=HCwi.out.at_ c4 hb
        have hb1:=Nat.lt_of_lt_of_le hb HCwi.out.size
        obtain ⟨gr,gg⟩:=entryOk_iff.1 (hall.out i x.e (by rw [HN.out];exact hlt3) hx)
        have hs:=HS.out x.e (List.mem_of_getElem? hx)
        have HXU:=Lib.hid (hux.u hs (by have:=(gErr_zero gg).2.2;show x.e.reg.hs.length ≤ _;omega))
        have HXg:=Lib.hid (And.intro gr gg)
        have HX:=Lib.hid hx
        obtain ⟨xl,hxl⟩ : ∃ xl,x.e.left.parts.length = xl:=⟨_,rfl⟩
        obtain ⟨xr,hxr⟩ : ∃ xr,x.e.right.parts.length = xr:=⟨_,rfl⟩
        obtain ⟨xlr,hxlr⟩ : ∃ xlr,x.e.left.rest = xlr:=⟨_,rfl⟩
        obtain ⟨xrr,hxrr⟩ : ∃ xrr,x.e.right.rest = xrr:=⟨_,rfl⟩
        obtain ⟨xh,hxh⟩ : ∃ xh,x.e.hs.length = xh:=⟨_,rfl⟩
        rw [hxl] at c0
        rw [hxlr] at c1
        rw [hxr] at c2
        rw [hxrr] at c3
        rw [hxh] at c4
        have HXn:=Lib.hid (And.intro hxl (And.intro hxr (And.intro hxlr (And.intro hxrr hxh))))
        obtain ⟨wB,hwB⟩ : ∃ wB,wB = wi.alloc (.cells #[.slice x.LA xl x.lc,.bool xlr,.slice x.RA xr x.rc,.bool xrr,.slice x.HA xh x.hc] 40):=⟨_,rfl⟩
        obtain ⟨BX,hBX⟩ : ∃ BX,wi.heap.size = BX:=⟨_,rfl⟩
        have hcB : Calm wi wB:=by
         show Below _ _ _
         rw [hwB]
         exact (Calm.refl _).alloc _
        have HFx : Hid (FiveB wB BX (.slice x.LA xl x.lc) (.bool xlr) (.slice x.RA xr x.rc) (.bool xrr) (.slice x.HA xh x.hc)):=by
         show FiveB _ _ _ _ _ _ _
         rw [hwB,← hBX]
         exact FiveB.new wi _ _ _ _ _ _
        have HCB:=Lib.hid hcB
        have HWB:=Lib.hid hwB
        have HBX:=Lib.hid hBX
        clear hx hux gr gg hs hxl hxr hxlr hxrr hxh hwB hcB hBX
        have hik : i ≤ c:=by omega
        go_wp2_with fail
        rw [← HWB.out,HBX.out]
        clear c0 c1 c2 c3 c4
        go_loopw [64] (fun u wr=>∃ j : Nat,j ≤ i ∧ u = .int .i64 j ∧ Hid (Calm wB wr) ∧ Hid (∀ q y,q < j → es[q]? = some y → clashE x.e y = false)) (fun u _=>i - (intOf u).toNat)
        case atStart=>exact ⟨0,Nat.zero_le _,rfl,Calm.refl _,fun q y hq=>absurd hq (Nat.not_lt_zero _)⟩
        case round=>
         obtain ⟨j,hj,rfl,HCj,HQ⟩:=hrel
         obtain ⟨wj,rfl⟩ : ∃ wj,wj = wr:=⟨_,rfl⟩
         by_cases hlt4 : j < i
         ·obtain ⟨b',o',y,e9,hb',hy,c0,c1,c2,c3,c4,huy⟩:=HE.out.get (k:=j) (by rw [HN.out];omega)
          obtain ⟨rfl,rfl⟩ : b = b' ∧ o = o':=by simpa using e9
          have HCwj : Hid (Calm w wj):=HCwi.out.trans (HCB.out.trans HCj.out)
          have c0:=HCwj.out.at_ c0 hb
          have c1:=HCwj.out.at_ c1 hb
          have c2:=HCwj.out.at_ c2 hb
          have c3:=HCwj.out.at_ c3 hb
          have c4:=HCwj.out.at_ c4 hb
          have hb2:=Nat.lt_of_lt_of_le hb HCwj.out.size
          obtain ⟨gr,gg⟩:=entryOk_iff.1 (hall.out j y.e (by rw [HN.out];omega) hy)
          have hs:=HS.out y.e (List.mem_of_getElem? hy)
          have hyU:=huy.u hs (by have:=(gErr_zero gg).2.2;show y.e.reg.hs.length ≤ _;omega)
          obtain ⟨yl,hyl⟩ : ∃ yl,y.e.left.parts.length = yl:=⟨_,rfl⟩
          obtain ⟨yr,hyr⟩ : ∃ yr,y.e.right.parts.length = yr:=⟨_,rfl⟩
          obtain ⟨ylr,hylr⟩ : ∃ ylr,y.e.left.rest = ylr:=⟨_,rfl⟩
          obtain ⟨yrr,hyrr⟩ : ∃ yrr,y.e.right.rest = yrr:=⟨_,rfl⟩
          obtain ⟨yh,hyh⟩ : ∃ yh,y.e.hs.length = yh:=⟨_,rfl⟩
          rw [hyl] at c0
          rw [hylr] at c1
          rw [hyr] at c2
          rw [hyrr] at c3
          rw [hyh] at c4
          obtain ⟨ks,XA,xc,KA,kc,r1,p0,p1,p2,hXP,hKP⟩:=HT.out.done i x.e hlt3 HX.out
          obtain ⟨ls,YA,yc,LA,lc,r2,q0,q1,q2,hYP,hLP⟩:=HT.out.done j y.e (by omega) hy
          rw [HXn.out.2.1] at p0
          rw [HXn.out.2.2.2.1] at p1
          rw [hyr] at q0
          rw [hyrr] at q1
          obtain ⟨kn,hkn⟩ : ∃ kn,ks.length = kn:=⟨_,rfl⟩
          obtain ⟨ln,hln⟩ : ∃ ln,ls.length = ln:=⟨_,rfl⟩
          have g1:=rightHs_good r1
          have g2:=rightHs_good r2
          have gx64:=(gErr_zero HXg.out.2).2.2
          have gy64:=(gErr_zero gg).2.2
          have gx64 : x.e.hs.length ≤ 64:=gx64
          have gy64 : y.e.hs.length ≤ 64:=gy64
          have hxh64 : xh ≤ 64:=by rw [← HXn.out.2.2.2.2];exact gx64
          have hyh64 : yh ≤ 64:=by rw [← hyh];exact gy64
          have hkn64 : kn ≤ 64:=by have:=g1.2;omega
          have hln64 : ln ≤ 64:=by have:=g2.2;omega
          rw [hkn] at p2
          rw [hln] at q2
          obtain ⟨v1,hv1⟩ : ∃ v1,commonG x.e.reg y.e.reg = v1:=⟨_,rfl⟩
          obtain ⟨v2,hv2⟩ : ∃ v2,commonG ⟨x.e.right,ks⟩ ⟨y.e.right,ls⟩ = v2:=⟨_,rfl⟩
          have HCl : Hid (clashE x.e y.e = (v1 || v2)):=by
           show _ = _
           rw [clashE_of r1 r2,hv1,hv2]
          obtain ⟨wb,hwb⟩ : ∃ wb,wb = wj.alloc (.cells #[.slice y.LA yl y.lc,.bool ylr,.slice y.RA yr y.rc,.bool yrr,.slice y.HA yh y.hc] 40):=⟨_,rfl⟩
          obtain ⟨BY,hBY⟩ : ∃ BY,wj.heap.size = BY:=⟨_,rfl⟩
          have hcb : Calm wj wb:=by
           show Below _ _ _
           rw [hwb]
           exact (Calm.refl _).alloc _
          have hFy : FiveB wb BY (.slice y.LA yl y.lc) (.bool ylr) (.slice y.RA yr y.rc) (.bool yrr) (.slice y.HA yh y.hc):=by
           rw [hwb,← hBY]
           exact FiveB.new wj _ _ _ _ _ _
          have hFx:=HFx.out.calm (HCj.out.trans hcb)
          have hcw : Calm w wb:=HCwj.out.trans hcb
          have hcp : Calm wp wb:=HCi.out.trans (HCB.out.trans (HCj.out.trans hcb))
          have KLx : Hid (∀ q : CalmTo wb,Calls Tryz.prog 21 #[.agg #[.slice x.LA xl x.lc,.bool xlr,.slice x.RA xr x.rc,.bool xrr,.slice x.HA xh x.hc]] q.w fun e w'=>e = .returned (.agg #[.slice x.LA xl x.lc,.bool xlr,.slice x.HA xh x.hc]) ∧ Calm q.w w'):=(fun q : CalmTo wb=>left_c x.LA x.RA x.HA xl x.lc xr x.rc xh x.hc xlr xrr q.w)
          have KLy : Hid (∀ q : CalmTo wb,Calls Tryz.prog 21 #[.agg #[.slice y.LA yl y.lc,.bool ylr,.slice y.RA yr y.rc,.bool yrr,.slice y.HA yh y.hc]] q.w fun e w'=>e = .returned (.agg #[.slice y.LA yl y.lc,.bool ylr,.slice y.HA yh y.hc]) ∧ Calm q.w w'):=(fun q : CalmTo wb=>left_c y.LA y.RA y.HA yl y.lc yr y.rc yh y.hc ylr yrr q.w)
          have KC1:=Lib.hid (fun q : CalmTo wb=>common_c x.e.reg y.e.reg v1 xl xh yl yh xlr ylr x.LA x.lc x.HA x.hc y.LA y.lc y.HA y.hc q.w (HXU.out.l.calm (hcw.trans q.h)) (HXU.out.h.calm (hcw.trans q.h)) (hyU.l.calm (hcw.trans q.h)) (hyU.h.calm (hcw.trans q.h)) (gErr_zero HXg.out.2).1 (gErr_zero gg).1 hv1 HXn.out.1 HXn.out.2.2.2.2 HXn.out.2.2.1 hyl hyh hylr (by omega))
          have KC2:=Lib.hid (fun q : CalmTo wb=>common_c ⟨x.e.right,ks⟩ ⟨y.e.right,ls⟩ v2 xr kn yr ln xrr yrr XA xc KA kc YA yc LA lc q.w (hXP.calm (hcw.trans q.h)) ((hKP.calm (hcp.trans q.h)).reads (by omega)) (hYP.calm (hcw.trans q.h)) ((hLP.calm (hcp.trans q.h)).reads (by omega)) (ruleErr_twin.1 HXg.out.1).rp (ruleErr_twin.1 gr).rp hv2 HXn.out.2.1 hkn HXn.out.2.2.2.1 hyr hln hyrr (by omega))
          have hRl:=HT.out.lt
          have hRw:=Nat.lt_of_lt_of_le hRl hcp.size
          have s0:=fun q : CalmTo wb=>q.cell hFx.c0 hFx.lt
          have s1:=fun q : CalmTo wb=>q.cell hFx.c1 hFx.lt
          have s2:=fun q : CalmTo wb=>q.cell hFx.c2 hFx.lt
          have s3:=fun q : CalmTo wb=>q.cell hFx.c3 hFx.lt
          have s4:=fun q : CalmTo wb=>q.cell hFx.c4 hFx.lt
          have t0:=fun q : CalmTo wb=>q.cell hFy.c0 hFy.lt
          have t1:=fun q : CalmTo wb=>q.cell hFy.c1 hFy.lt
          have t2:=fun q : CalmTo wb=>q.cell hFy.c2 hFy.lt
          have t3:=fun q : CalmTo wb=>q.cell hFy.c3 hFy.lt
          have t4:=fun q : CalmTo wb=>q.cell hFy.c4 hFy.lt
          have P0:=fun q : CalmTo wb=>q.cell (hcp.at_ p0 hRl) hRw
          have P1:=fun q : CalmTo wb=>q.cell (hcp.at_ p1 hRl) hRw
          have P2:=fun q : CalmTo wb=>q.cell (hcp.at_ p2 hRl) hRw
          have Q0:=fun q : CalmTo wb=>q.cell (hcp.at_ q0 hRl) hRw
          have Q1:=fun q : CalmTo wb=>q.cell (hcp.at_ q1 hRl) hRw
          have Q2:=fun q : CalmTo wb=>q.cell (hcp.at_ q2 hRl) hRw
          have HY:=Lib.hid hy
          have HWb:=Lib.hid hwb
          have HBY:=Lib.hid hBY
          have HCwb : Hid (Calm wB wb):=HCj.out.trans hcb
          have HCww:=Lib.hid hcw
          have hjk : j < k:=by omega
          clear hy huy gr gg hs hyU hyl hyr hylr hyrr hyh r1 r2 p0 p1 p2 q0 q1 q2 hXP hKP hYP hLP hkn hln g1 g2 gx64 gy64 hv1 hv2 hwb hBY hcb hFy hFx hcw hcp e9
          go_wp2_with fail
          rw [← HWb.out,HBY.out]
          clear c0 c1 c2 c3 c4
          refine wp_region_calm (by kernel_rfl) (by kernel_rfl) ?_
          cases v1 with
          |true=>
           have hcl : Hid (clashE x.e y.e = true):=HCl.out
           repeat (go_big_quiet_step (first
            |(go_at_call 21;first | with_reducible exact calmOf (KLx.out _) | with_reducible exact calmOf (KLy.out _))
            |(go_at_call 20;first | with_reducible exact calmOf (KC1.out _) | with_reducible exact calmOf (KC2.out _))))
           refine wpQuiet_nil ?_
           intro w7 hc7
           have HE : Hid (mapE es = (i,71)):=mapE_over hall.out (by rw [HN.out];exact h32') hrs.out (by rw [HN.out];exact hlt3) (clashAt_true HX.out HY.out hlt4 hcl.out) HP.out
           have HC7:=Lib.hid (HCww.out.trans hc7)
           clear hc7 s0 s1 s2 s3 s4 t0 t1 t2 t3 t4 P0 P1 P2 Q0 Q1 Q2
           go_wp2
           go_ret2
           exact ⟨by rw [HE.out];rfl,HC7.out⟩
          |false=>
           have hcl : Hid (clashE x.e y.e = v2):=HCl.out
           repeat (go_big_quiet_step (first
            |(go_at_call 21;first | with_reducible exact calmOf (KLx.out _) | with_reducible exact calmOf (KLy.out _))
            |(go_at_call 20;first | with_reducible exact calmOf (KC1.out _) | with_reducible exact calmOf (KC2.out _))))
           refine wpQuiet_nil ?_
           intro w7 hc7
           have HC7:=Lib.hid (HCww.out.trans hc7)
           have HC7B:=Lib.hid (HCwb.out.trans hc7)
           clear hc7 s0 s1 s2 s3 s4 t0 t1 t2 t3 t4 P0 P1 P2 Q0 Q1 Q2
           cases v2 with
           |true=>
            have HE : Hid (mapE es = (i,71)):=mapE_over hall.out (by rw [HN.out];exact h32') hrs.out (by rw [HN.out];exact hlt3) (clashAt_true HX.out HY.out hlt4 hcl.out) HP.out
            go_wp2
            go_ret2
            exact ⟨by rw [HE.out];rfl,HC7.out⟩
           |false=>
            go_wp2
            go_roundw
            case rel=>exact ⟨j + 1,by omega,by go_num,HC7B.out,none_step (pr:=fun q : Ent=>clashE x.e q) HY.out hcl.out HQ.out⟩
            case measure=>simp [intOf];omega
         ·obtain rfl : j = i:=by omega
          have hcl : clashAt es j = false:=clashAt_false HX.out HQ.out
          go_wp2_with fail
          go_roundw
          case rel=>exact ⟨j + 1,by omega,by go_num,HCi.out.trans (HCB.out.trans HCj.out),clashStep hcl HP.out⟩
          case measure=>simp [intOf];omega
       ·obtain rfl : i = k:=by omega
        have hE : Hid (mapE es = (0,0)):=mapE_fine hall.out (by rw [HN.out];exact h32') hrs.out (fun j hj=>HP.out j (by rw [← HN.out];exact hj))
        go_wp2_with fail
        go_ret2
        exact ⟨by rw [hE.out];rfl,HT.out.calm.trans HCi.out⟩
end Go.Proofs.YthopphabeddnfaaGreatDoor
