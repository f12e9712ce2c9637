/- The law StreamSources: its walk. -/
import Derived.Test.YtdcdabbepnahnaaGreatDoorZLocate
import Derived.Test.YtdcdabbepnahnaaGreatDoorZStepApp
import Derived.Test.YtdcdabbepnahnaaGreatDoorZStrLaw
set_option linter.unusedVariables false
set_option linter.unusedSimpArgs false
namespace Go.Proofs.YtdcdabbepnahnaaGreatDoor
open Go Go.RowKit Sy

def partsL (x : Line) : List Str:=x.path.parts ++ x.frm.parts
def sumL (ls : List Line) : Nat:=(ls.map fun x=>(partsL x).length).sum
def sumS (ss : List Strm) (k : Nat) : Nat:=((ss.take k).map fun s=>sumL s.paths).sum
def okS (s : Strm) : Bool:=decide (s.name.length + s.parent.length ≤ 100) && decide (s.paths.length ≤ 15) && s.paths.all fun x=>(partsL x).all fun p=>decide (p.length ≤ 40)
def smallS (ss : List Strm) : Bool:=ss.all okS && decide (ss.length ≤ 20) && decide (sumS ss ss.length ≤ 150)
theorem sumL_succ {ls : List Line} {k : Nat} {x : Line} (h : ls[k]? = some x) : sumL (ls.take (k + 1)) = sumL (ls.take k) + (x.path.parts.length + x.frm.parts.length):=by
 obtain ⟨hlt,rfl⟩:=List.getElem?_eq_some_iff.1 h
 unfold sumL
 rw [List.take_succ_eq_append_getElem hlt,List.map_append,List.sum_append]
 congr 1
 show [(partsL ls[k]).length].sum = _
 rw [partsL,List.length_append]
 simp
theorem sumS_succ {ss : List Strm} {k : Nat} {s : Strm} (h : ss[k]? = some s) : sumS ss (k + 1) = sumS ss k + sumL s.paths:=by
 obtain ⟨hlt,rfl⟩:=List.getElem?_eq_some_iff.1 h
 unfold sumS
 rw [List.take_succ_eq_append_getElem hlt,List.map_append,List.sum_append]
 simp
theorem le_sum_of {l : List Nat} {x : Nat} (h : x ∈ l) : x ≤ l.sum:=by
 induction l with
 |nil=>cases h
 |cons y t ih=>
  rw [List.sum_cons]
  rcases List.mem_cons.1 h with rfl | h
  ·omega
  ·have:=ih h
   omega
theorem smallS_small {ss : List Strm} (h : smallS ss = true) : SmallSS ss ∧ ss.length ≤ 20:=by
 rw [smallS,Bool.and_eq_true,Bool.and_eq_true,decide_eq_true_eq,decide_eq_true_eq] at h
 refine ⟨fun s hs x hx=>?_,h.1.2⟩
 have h1:=List.all_eq_true.1 h.1.1 s hs
 simp only [okS,Bool.and_eq_true] at h1
 have h2:=List.all_eq_true.1 h1.2 x hx
 have h3 : sumL s.paths ≤ sumS ss ss.length:=by
  unfold sumS
  rw [List.take_length]
  exact le_sum_of (List.mem_map.2 ⟨s,hs,rfl⟩)
 have h4 : (partsL x).length ≤ sumL s.paths:=le_sum_of (List.mem_map.2 ⟨x,hx,rfl⟩)
 have h5 : (partsL x).length = x.path.parts.length + x.frm.parts.length:=by rw [partsL,List.length_append]
 have h6:=List.all_eq_true.1 h2
 exact ⟨by show x.path.parts.length ≤ 200;omega,fun p hp=>by have:=h6 p (List.mem_append_left _ hp);simp at this;omega,by show x.frm.parts.length ≤ 200;omega,fun p hp=>by have:=h6 p (List.mem_append_right _ hp);simp at this;omega⟩
theorem smallS_bad {ss : List Strm} {k : Nat} {s : Strm} (h : ss[k]? = some s) (hb : okS s = false) : smallS ss = false:=by
 have : ss.all okS = false:=by
  rw [List.all_eq_false]
  exact ⟨s,List.mem_of_getElem? h,by rw [hb];decide⟩
 rw [smallS,this]
 rfl
theorem okS_part {s : Strm} {x : Line} {p : Str} (hx : x ∈ s.paths) (hp : p ∈ partsL x) (hl : ¬ p.length ≤ 40) : okS s = false:=by
 have : (s.paths.all fun x=>(partsL x).all fun p=>decide (p.length ≤ 40)) = false:=by
  rw [List.all_eq_false]
  refine ⟨x,hx,?_⟩
  rw [Bool.not_eq_true,List.all_eq_false]
  exact ⟨p,hp,by simpa using hl⟩
 rw [okS,this]
 simp

set_option maxRecDepth 100000 in
set_option maxHeartbeats 8000000 in
theorem smallS_c (ss : List Strm) (y : Bool) (A : Option Addr) (n c : Nat) (w : World) (hv : StrmsU w A ss) (hn : ss.length = n) (hy : smallS ss = y) :
  Calls Tryz.prog 7 #[.slice A n c] w fun e w'=>e = .returned (.bool y) ∧ Calm w w':=by
 have hlen:=hv.len
 rw [hn] at hlen
 have HN:=Lib.hid hn
 have HV:=Lib.hid hv
 have HY:=Lib.hid hy
 clear hn hv hy
 go_enter Tryz.func7,Tryz.ntmps7
 go_wp2_with fail
 go_loopw [3,12] (fun u q wr=>∃ (k S : Nat),k ≤ n ∧ q = .int .i64 k ∧ u = .int .i64 S ∧ S ≤ k * 40000000 ∧ Hid (sumS ss k = S) ∧ Hid (∀ j s,j < k → ss[j]? = some s → okS s = true) ∧ Hid (Calm w wr)) (fun _ q _=>n - (intOf q).toNat)
 case atStart=>exact ⟨0,0,Nat.zero_le _,rfl,rfl,Nat.zero_le _,rfl,fun j r hj=>absurd hj (Nat.not_lt_zero _),Calm.refl _⟩
 case round=>
  obtain ⟨k,S,hk,rfl,rfl,hS,HS,HG,HC⟩:=hrel
  obtain ⟨wq,rfl⟩ : ∃ wq,wq = wr:=⟨_,rfl⟩
  by_cases hlt : k < n
  ·obtain ⟨b,o,s,PA,pc,rfl,hb,hr,hat,hsu⟩:=(HV.out.calm HC.out).get (k:=k) (by rw [HN.out];exact hlt)
   have c0:=hat.c0
   have c1:=hat.c1
   have c2:=hat.c2
   obtain ⟨nm,hnm⟩ : ∃ nm,s.name = nm:=⟨_,rfl⟩
   obtain ⟨pa,hpa⟩ : ∃ pa,s.parent = pa:=⟨_,rfl⟩
   obtain ⟨np,hnp⟩ : ∃ np,s.paths.length = np:=⟨_,rfl⟩
   have hnl:=hsu.name
   have hpl:=hsu.par
   have hnpl:=hsu.lines.len
   rw [hnm] at c0 hnl
   rw [hpa] at c1 hpl
   rw [hnp] at c2 hnpl
   have hb0:=bs_size nm
   have hb1:=bs_size pa
   have HLs:=Lib.hid hsu.lines
   have HR:=Lib.hid hr
   have HX:=Lib.hid (And.intro hnm (And.intro hpa hnp))
   have hbox:=BoxS.new wq nm pa PA np pc
   have HB:=Lib.hid hbox
   clear hat hsu hr hnm hpa hnp hbox
   by_cases h100 : nm.length + pa.length ≤ 100
   ·by_cases h15 : np ≤ 15
    ·have h1 : Hid (nm.length + pa.length ≤ 100):=h100
     have hd1 : decide ((100 : Int) < (nm.length : Int) + (pa.length : Int)) = false:=by simp;omega
     have hd2 : decide ((15 : Int) < (np : Int)) = false:=by simp;omega
     go_wp2_with fail
     obtain ⟨wB,hwB⟩ : ∃ wB,wB = wq.alloc (.cells #[.string (bs nm),.string (bs pa),.slice PA np pc] 49):=⟨_,rfl⟩
     rw [← hwB]
     have hcB : Calm wq wB:=by rw [hwB];exact (Calm.refl wq).alloc _
     have HCB:=Lib.hid hcB
     clear hwB hcB
     go_loopw [3,33] (fun u q wr=>∃ (k2 S2 : Nat),k2 ≤ np ∧ q = .int .i64 k2 ∧ u = .int .i64 S2 ∧ S2 ≤ S + k2 * 2097152 ∧ Hid (sumS ss k + sumL (s.paths.take k2) = S2) ∧ Hid (∀ j x,j < k2 → s.paths[j]? = some x → ∀ p ∈ partsL x,p.length ≤ 40) ∧ Hid (Calm wB wr)) (fun _ q _=>np - (intOf q).toNat)
     case atStart=>exact ⟨0,S,Nat.zero_le _,rfl,rfl,by omega,by show _ = _;rw [HS.out];rfl,fun j r hj=>absurd hj (Nat.not_lt_zero _),Calm.refl _⟩
     case round=>
      obtain ⟨k2,S2,hk2,rfl,rfl,hS2,HS2,HG2,HC2⟩:=hrel
      obtain ⟨wt,rfl⟩ : ∃ wt,wt = wr:=⟨_,rfl⟩
      by_cases hlt2 : k2 < np
      ·obtain ⟨b',o',x,a,rfl,hb',hx,hxa,hru⟩:=(HLs.out.calm (HCB.out.trans HC2.out)).get (k:=k2) (by rw [HX.out.2.2];exact hlt2)
       have d0:=hxa.c0
       have d1:=hxa.c1
       have d2:=hxa.c2
       have d3:=hxa.c3
       have d4:=hxa.c4
       obtain ⟨κ,h0⟩ : ∃ κ,x.kind = κ:=⟨_,rfl⟩
       obtain ⟨nl,h1⟩ : ∃ npp,x.path.parts.length = npp:=⟨_,rfl⟩
       obtain ⟨nr,h2⟩ : ∃ nf,x.frm.parts.length = nf:=⟨_,rfl⟩
       obtain ⟨rp,h3⟩ : ∃ rp,x.path.rest = rp:=⟨_,rfl⟩
       obtain ⟨rf,h4⟩ : ∃ rf,x.frm.rest = rf:=⟨_,rfl⟩
       have hnll : nl ≤ 1048576:=by rw [← h1];exact hru.lr.len
       have hnrl : nr ≤ 1048576:=by rw [← h2];exact hru.rr.len
       rw [h0] at d0
       rw [h1] at d1
       rw [h3] at d2
       rw [h2] at d3
       rw [h4] at d4
       have HX2:=Lib.hid hx
       obtain ⟨wL,hwL⟩ : ∃ wL,wL = wt.alloc (.cells #[.int .i64 κ,.slice a.AL nl a.cl,.bool rp,.slice a.AR nr a.cr,.bool rf] 53):=⟨_,rfl⟩
       have hcL : Calm wt wL:=by rw [hwL];exact (Calm.refl wt).alloc _
       have hbl : BoxL wL wt.heap.size a κ nl nr rp rf:=by rw [hwL];exact BoxL.new wt a κ nl nr rp rf
       have g1:=hbl.c1
       have g3:=hbl.c3
       have hzL:=hbl.lt
       have HU : Hid (RuleU wL a x.rule):=hru.calm hcL
       have HWL:=Lib.hid hwL
       have HCL:=Lib.hid hcL
       have HNl:=Lib.hid (And.intro h1 h2)
       clear hxa hru h0 h1 h2 h3 h4 hx hwL hcL hbl
       have hlm : Hid ((partsL x).length = nl + nr):=by show (partsL x).length = _;rw [partsL,List.length_append,HNl.out.1,HNl.out.2]
       go_wp2_with fail
       rw [← HWL.out]
       go_region_law ((first
        |(refine step_app rfl (.const (.slice none 0 0)) (.tmp 50) rfl wL (.slice none 0 0) [] rfl (OwnS.nil (by first | exact Calm.refl _ | exact (Calm.refl _).drewN _)) a.AL nl a.cl (by simp [Act.eval,Act.put]) x.path.parts HNl.out.1 (HU.out.lr.calm (by first | exact Calm.refl _ | exact (Calm.refl _).drewN _)) (by simp;omega) ?_;intro v5 w5 hown5;have q3:=hown5.calm.at_ g3 hzL)
        |(refine step_app rfl (.tmp 51) (.tmp 54) rfl wL v5 x.path.parts (by simp [Act.eval,Act.put]) (hown5.to (by first | exact Calm.refl _ | exact (Calm.refl _).drewN _)) a.AR nr a.cr (by simp [Act.eval,Act.put]) x.frm.parts HNl.out.2 (HU.out.rr.calm (hown5.calm.trans (by first | exact Calm.refl _ | exact (Calm.refl _).drewN _))) (by rw [HNl.out.1];omega) ?_;intro v6 w6 hown6;obtain ⟨A9,c9,hv9,hle9,hat9⟩:=owns_strs hown6.own;rw [show (x.path.parts ++ x.frm.parts).length = nl + nr from hlm.out] at hv9;subst hv9)))
       all_goals
        have hpl : Hid (∀ p ∈ partsL x,p.length ≤ 1048576):=fun p hp=>by
         rcases List.mem_append.1 hp with h | h
         ·exact HU.out.lr.each p h
         ·exact HU.out.rr.each p h
        have H6:=Lib.hid hown6
        have HAt : Hid (0 < (partsL x).length → ∃ g,A9 = some ⟨g,0,none⟩ ∧ wL.heap.size ≤ g ∧ g < w6.heap.size ∧ ∀ (k : Nat) l,(partsL x)[k]? = some l → w6.cell? ⟨g,k,none⟩ = some (.string (bs l))):=hat9
        clear hown6 hat9 hown5 q3 g1 g3 hle9
        simp only [List.getElem_toArray,List.getElem_cons_succ,List.getElem_cons_zero,Act.put,List.setIfInBounds_toArray,List.set_cons_succ,List.set_cons_zero]
        go_wp2
        go_loop [57] (fun q=>∃ i : Nat,i ≤ nl + nr ∧ q = .int .i64 i ∧ Hid (∀ j p,j < i → (partsL x)[j]? = some p → p.length ≤ 40)) (fun q=>(nl + nr) - (intOf q).toNat)
        case atStart=>exact ⟨0,Nat.zero_le _,rfl,fun j x hj=>absurd hj (Nat.not_lt_zero _)⟩
        case round=>
         obtain ⟨i,hi,rfl,HI⟩:=hrel
         by_cases hilt : i < nl + nr
         ·obtain ⟨g,rfl,_,hg,hcells⟩:=HAt.out (by rw [hlm.out];omega)
          obtain ⟨p,hp⟩ : ∃ p,(partsL x)[i]? = some p:=⟨_,List.getElem?_eq_getElem (by rw [hlm.out];exact hilt)⟩
          have hcx:=hcells i p hp
          have hxl:=hpl.out p (List.mem_of_getElem? hp)
          have HP:=Lib.hid hp
          clear hcells hp
          have hsz:=bs_size p
          by_cases h40 : p.length ≤ 40
          ·go_wp2
           go_round
           case rel=>exact ⟨i + 1,by omega,by go_num,snoc_at (P:=fun p : Str=>p.length ≤ 40) HP.out h40 HI.out⟩
           case measure=>simp [intOf];omega
          ·have hE : Hid (smallS ss = false):=smallS_bad HR.out (okS_part (List.mem_of_getElem? HX2.out) (List.mem_of_getElem? HP.out) h40)
           go_wp2
           go_ret
           exact ⟨ret_bool (by rw [← HY.out,hE.out]),HC.out.trans (HCB.out.trans (HC2.out.trans (HCL.out.trans H6.out.calm)))⟩
         ·obtain rfl : i = nl + nr:=by omega
          go_wp2
          go_roundw
          case rel=>
           refine ⟨k2 + 1,S2 + (nl + nr),by omega,by go_num,by go_num,by omega,?_,fun j q hj hq p hp=>?_,HC2.out.trans (HCL.out.trans H6.out.calm)⟩
           ·show _ = _
            rw [sumL_succ HX2.out,← HS2.out,HNl.out.1,HNl.out.2]
            omega
           ·by_cases e : j = k2
            ·subst e
             rw [HX2.out] at hq
             cases hq
             obtain ⟨t,ht,rfl⟩:=List.mem_iff_getElem.1 hp
             exact HI.out t _ (by rw [← hlm.out];exact ht) (List.getElem?_eq_getElem ht)
            ·exact HG2.out j q (by omega) hq p hp
          case measure=>simp [intOf];omega
      ·obtain rfl : k2 = np:=by omega
       go_wp2_with fail
       go_roundw
       case rel=>
        refine ⟨k + 1,S2,by omega,by go_num,rfl,by omega,?_,fun j q hj hq=>?_,HC.out.trans (HCB.out.trans HC2.out)⟩
        ·show sumS ss (k + 1) = _
         rw [sumS_succ HR.out,← HS2.out,List.take_of_length_le (l:=s.paths) (by rw [HX.out.2.2];exact Nat.le_refl _)]
        ·by_cases e : j = k
         ·subst e
          rw [HR.out] at hq
          cases hq
          rw [okS,HX.out.1,HX.out.2.1,HX.out.2.2,decide_eq_true h1.out,decide_eq_true h15]
          simp only [Bool.true_and]
          refine List.all_eq_true.2 fun x hx=>List.all_eq_true.2 fun p hp=>?_
          simpa using all_to HX.out.2.2 HG2.out x hx p hp
         ·exact HG.out j q (by omega) hq
       case measure=>simp [intOf];omega
    ·have hE : Hid (smallS ss = false):=smallS_bad HR.out (by rw [okS,HX.out.2.2,decide_eq_false h15];simp)
     have hd1 : decide ((100 : Int) < (nm.length : Int) + (pa.length : Int)) = false:=by simp;omega
     go_wp2_with fail
     go_ret
     exact ⟨ret_bool (by rw [← HY.out,hE.out]),HC.out.trans ((Calm.refl _).alloc _)⟩
   ·have hE : Hid (smallS ss = false):=smallS_bad HR.out (by rw [okS,HX.out.1,HX.out.2.1,decide_eq_false h100];simp)
    have hd1 : decide ((100 : Int) < (nm.length : Int) + (pa.length : Int)) = true:=by simp;omega
    go_wp2_with fail
    go_ret
    exact ⟨ret_bool (by rw [← HY.out,hE.out]),HC.out.trans ((Calm.refl _).alloc _)⟩
  ·obtain rfl : k = n:=by omega
   have hE : Hid (smallS ss = (decide (k ≤ 20) && decide (S ≤ 150))):=by
    show smallS ss = _
    have h1 : ss.all okS = true:=List.all_eq_true.2 (all_to HN.out HG.out)
    rw [smallS,h1,HN.out,HS.out]
    rfl
   by_cases h20 : k ≤ 20
   ·by_cases h150 : S ≤ 150
    ·go_wp2_with fail
     go_ret
     exact ⟨ret_bool (by rw [← HY.out,hE.out];simp [h20,h150];omega),HC.out⟩
    ·go_wp2_with fail
     go_ret
     exact ⟨ret_bool (by rw [← HY.out,hE.out];simp [h20,h150];omega),HC.out⟩
   ·go_wp2_with fail
    go_ret
    exact ⟨ret_bool (by rw [← HY.out,hE.out];simp [h20]),HC.out⟩
end Go.Proofs.YtdcdabbepnahnaaGreatDoor
set_option linter.unusedVariables false
set_option linter.unusedSimpArgs false
namespace Go.Proofs.YtdcdabbepnahnaaGreatDoor
open Go Go.RowKit Sy

def exS : List Strm:=[⟨[109,97,105,110],[],[allLine]⟩]
theorem exS_loc : locE exS [109,97,105,110] [47,47,118,105,101,119,47,97] = (1,[47,47,109,97,105,110,47,97],0):=by decide +kernel
theorem exS_small : SmallSS exS:=fun s hs x hx=>by
 rw [exS,List.mem_singleton] at hs
 subst hs
 simp only [List.mem_singleton] at hx
 subst hx
 exact ⟨by decide,by decide,by decide,by decide⟩
def exSW (w : World) : World:=
 ((w.alloc (Obj.cells #[Value.string ⟨#[118,105,101,119]⟩] 9)).alloc
  (Obj.cells #[Value.int .i64 1,Value.slice (some { block:=w.heap.size,off:=0 }) 1 1,Value.bool true,Value.slice none 0 0,Value.bool false] 53)).alloc
  (Obj.cells #[Value.string ⟨#[109,97,105,110]⟩,Value.string ⟨#[]⟩,Value.slice (some { block:=w.heap.size + 1,off:=0 }) 1 1] 49)
theorem exSW_calm (w : World) : Calm w (exSW w):=(((Calm.refl w).alloc _).alloc _).alloc _
theorem exSW_size (w : World) : (exSW w).heap.size = w.heap.size + 3:=by simp [exSW]
theorem news_at {v w' : World} {cs : Array Value} {t : TypeId} {n k : Nat} {x : Value} (hc : Calm (v.alloc (.cells cs t)) w') (hs : v.heap.size = n) (h : cs[k]? = some x) : w'.cell? ⟨n,k,none⟩ = some x:=by
 subst hs
 refine hc.at_ ?_ (by simp)
 rw [cell_of_row _ v.heap.size k _ _ _ (heap_alloc_new v _)]
 exact h
theorem exSW_strms (w : World) : StrmsU (exSW w) (some ⟨w.heap.size + 1 + 1,0,none⟩) exS:=by
 refine ⟨by decide,fun _=>⟨_,0,rfl,by rw [exSW_size];omega,fun k s hs=>?_⟩⟩
 match k,hs with
 |0,hs=>
  cases hs
  refine ⟨some ⟨w.heap.size + 1,0,none⟩,1,⟨?_,?_,?_⟩,⟨by decide,by decide,⟨by decide,fun _=>⟨_,0,rfl,by rw [exSW_size];omega,fun k x hx=>?_⟩⟩,Nat.le_refl 1,by show 1 ≤ 9223372036854775807;omega⟩⟩
  ·exact news_at (v:=(w.alloc _).alloc _) (Calm.refl _) (by simp) rfl
  ·exact news_at (v:=(w.alloc _).alloc _) (Calm.refl _) (by simp) rfl
  ·exact news_at (v:=(w.alloc _).alloc _) (Calm.refl _) (by simp) rfl
  ·match k,hx with
   |0,hx=>
    cases hx
    refine ⟨⟨some ⟨w.heap.size,0,none⟩,1,none,0⟩,⟨?_,?_,?_,?_,?_⟩,⟨⟨by decide,by decide,fun _=>⟨_,0,rfl,by rw [exSW_size];omega,fun k l hl=>?_⟩⟩,⟨by decide,by decide,fun h=>absurd h (by decide)⟩,Nat.le_refl 1,Nat.le_refl 0,(by show 1 ≤ 9223372036854775807;omega),(by show 0 ≤ 9223372036854775807;omega)⟩⟩
    ·exact news_at (v:=w.alloc _) ((Calm.refl _).alloc _) (by simp) rfl
    ·exact news_at (v:=w.alloc _) ((Calm.refl _).alloc _) (by simp) rfl
    ·exact news_at (v:=w.alloc _) ((Calm.refl _).alloc _) (by simp) rfl
    ·exact news_at (v:=w.alloc _) ((Calm.refl _).alloc _) (by simp) rfl
    ·exact news_at (v:=w.alloc _) ((Calm.refl _).alloc _) (by simp) rfl
    ·rw [Nat.zero_add]
     refine news_at (v:=w) (((Calm.refl _).alloc _).alloc _) rfl ?_
     match k,hl with
     |0,hl=>cases hl;rfl
theorem exS_c (w : World) (hM : MaxL w) : Calls Tryz.prog 13 #[.slice (some ⟨w.heap.size + 1 + 1,0,none⟩) 1 1,.string ⟨#[109,97,105,110]⟩,.string ⟨#[47,47,118,105,101,119,47,97]⟩] (exSW w) fun e w'=>e = .returned (.tuple #[.int .i64 1,.string ⟨#[47,47,109,97,105,110,47,97]⟩,.int .i64 0]) ∧ Calm (exSW w) w':=by
 have:=locate_c exS [109,97,105,110] [47,47,118,105,101,119,47,97] (some ⟨w.heap.size + 1 + 1,0,none⟩) 1 1 (exSW w) (exSW_strms w) rfl (by decide) (by decide) exS_small (hM.calm (exSW_calm w))
 rw [exS_loc] at this
 exact this

set_option maxRecDepth 100000 in
set_option maxHeartbeats 4000000 in
theorem awakeS_c (w : World) (ht : MaxL w) : Calls Tryz.prog 8 #[] w fun e w'=>e = .returned (.bool true) ∧ Calm w w':=by
 have HT:=Lib.hid ht
 clear ht
 go_enter Tryz.func8,Tryz.ntmps8
 go_wp2_with fail
 refine ((exS_c w HT.out).mono ?_)
 rintro e w2 ⟨rfl,hc2⟩
 go_wp2_with fail
 go_ret
 exact ⟨rfl,(exSW_calm w).trans hc2⟩
end Go.Proofs.YtdcdabbepnahnaaGreatDoor
set_option linter.unusedVariables false
set_option linter.unusedSimpArgs false
namespace Go.Proofs.YtdcdabbepnahnaaGreatDoor
open Go Go.RowKit Sy

theorem locE_bad {ss : List Strm} {nm s : Str} {x : Int} (h : readyE ss nm = x) (hx : x ≠ 0) : locE ss nm s = (0,[],x):=by
 subst h
 rw [locE,if_neg hx]
theorem locE_ok {ss : List Strm} {nm : Str} (h : readyE ss nm = 0) : ∃ i,Sy.Good ss ∧ findI ss nm = some i ∧ i < ss.length ∧ ∀ s,locE ss nm s = ((locI ss i s).1,(locI ss i s).2,0):=by
 have h0 : (strErr ss).2 = 0:=Classical.byContradiction fun hne=>by
  rw [ready_bad hne] at h
  exact hne h
 rcases hf : findI ss nm with _ | i
 ·rw [ready_none h0 hf] at h
  cases h
 ·refine ⟨i,good_iff.1 h0,rfl,findI_lt hf,fun s=>?_⟩
  rw [locE,if_pos h,hf]
  rfl
theorem locI_under {ss : List Strm} {i : Nat} {s : Str} (h : (locI ss i s).1 ≠ 0) : underV s = true ∧ locI ss i s = see ss i s:=by
 unfold locI at h ⊢
 by_cases hu : underV s = true
 ·rw [if_pos hu]
  exact ⟨hu,rfl⟩
 ·rw [if_neg hu] at h
  exact absurd rfl h
end Go.Proofs.YtdcdabbepnahnaaGreatDoor
