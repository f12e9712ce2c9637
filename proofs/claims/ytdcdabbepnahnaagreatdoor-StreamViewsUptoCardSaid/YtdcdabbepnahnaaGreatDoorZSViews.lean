/- The law on the entries of a stream's view beside its specification answers true for every input of at most 1048576 values and letters and leaves its arguments as they were. The two listed tables hold what the library lays. -/
import Derived.Test.YtdcdabbepnahnaaGreatDoorProg
import Derived.ProofKit
import Derived.OpenShut
import Derived.SizedLaws
import Derived.Deep.Strs
import Derived.Deep.Slices
import Derived.ChangeSame
import Derived.Test.YtdcdabbepnahnaaGreatDoorRows
import Derived.Test.YtdcdabbepnahnaaGreatDoorCards
import Derived.Test.YtdcdabbepnahnaaGreatDoorTie
import Derived.WalkKit
import Derived.Deep.DeepHandedRow
import Derived.Carry
import Derived.Lib.LaidTab
import GoSem.PinnedTables
import Derived.Test.YtdcdabbepnahnaaGreatDoorZLocate
import Derived.Test.YtdcdabbepnahnaaGreatDoorZTurnR
import Derived.Test.YtdcdabbepnahnaaGreatDoorZStrLaw
import Derived.Test.YtdcdabbepnahnaaGreatDoorZCopyP
import Derived.Test.YtdcdabbepnahnaaGreatDoorZInside
import Derived.Test.YtdcdabbepnahnaaGreatDoorZStrMem
import Derived.Test.YtdcdabbepnahnaaGreatDoorZRChk
import Derived.Test.YtdcdabbepnahnaaGreatDoorZFwd
import Derived.Test.YtdcdabbepnahnaaGreatDoorZBindW
import Derived.Test.YtdcdabbepnahnaaGreatDoorZSimpW
import Derived.Test.YtdcdabbepnahnaaGreatDoorZMapMem
import Derived.Test.YtdcdabbepnahnaaGreatDoorZRView
set_option linter.unusedVariables false
set_option linter.unusedSimpArgs false
namespace Go.Proofs.YtdcdabbepnahnaaGreatDoor
open Go Go.RowKit Sy
def partsL (x:Line):List Str:=x.path.parts++x.frm.parts
def sumL (ls:List Line):Nat:=(ls.map fun x=>(partsL x).length).sum
def sumS (ss:List Strm) (k:Nat):Nat:=((ss.take k).map fun s=>sumL s.paths).sum
def okS (s:Strm):Bool:=decide (s.name.length+s.parent.length≤100) && decide (s.paths.length≤15) && s.paths.all fun x=>(partsL x).all fun p=>decide (p.length≤40)
def smallS (ss:List Strm):Bool:=ss.all okS && decide (ss.length≤20) && decide (sumS ss ss.length≤150)
theorem sumL_succ {ls:List Line} {k:Nat} {x:Line} (h:ls[k]?=some x):sumL (ls.take (k+1))=sumL (ls.take k)+(x.path.parts.length+x.frm.parts.length):=by
 obtain⟨hlt,rfl⟩:=List.getElem?_eq_some_iff.1 h
 unfold sumL
 rw[List.take_succ_eq_append_getElem hlt,List.map_append,List.sum_append]
 congr 1
 show [(partsL ls[k]).length].sum=_
 rw[partsL,List.length_append]
 simp
theorem sumS_succ {ss:List Strm} {k:Nat} {s:Strm} (h:ss[k]?=some s):sumS ss (k+1)=sumS ss k+sumL s.paths:=by
 obtain⟨hlt,rfl⟩:=List.getElem?_eq_some_iff.1 h
 unfold sumS
 rw[List.take_succ_eq_append_getElem hlt,List.map_append,List.sum_append]
 simp
theorem le_sum_of {l:List Nat} {x:Nat} (h:x∈l):x≤l.sum:=by
 induction l with
 |nil=>cases h
 |cons y t ih=>
  rw[List.sum_cons]
  rcases List.mem_cons.1 h with rfl | h
  ·omega
  ·have:=ih h
   omega
theorem smallS_small {ss:List Strm} (h:smallS ss=true):SmallSS ss∧ss.length≤20:=by
 rw[smallS,Bool.and_eq_true,Bool.and_eq_true,decide_eq_true_eq,decide_eq_true_eq] at h
 refine⟨fun s hs x hx=>?_,h.1.2⟩
 have h1:=List.all_eq_true.1 h.1.1 s hs
 simp only[okS,Bool.and_eq_true] at h1
 have h2:=List.all_eq_true.1 h1.2 x hx
 have h3:sumL s.paths≤sumS ss ss.length:=by
  unfold sumS
  rw[List.take_length]
  exact le_sum_of (List.mem_map.2 ⟨s,hs,rfl⟩)
 have h4:(partsL x).length≤sumL s.paths:=le_sum_of (List.mem_map.2 ⟨x,hx,rfl⟩)
 have h5:(partsL x).length=x.path.parts.length+x.frm.parts.length:=by rw[partsL,List.length_append]
 have h6:=List.all_eq_true.1 h2
 exact⟨by show x.path.parts.length≤200;omega,fun p hp=>by have:=h6 p (List.mem_append_left _ hp);simp at this;omega,by show x.frm.parts.length≤200;omega,fun p hp=>by have:=h6 p (List.mem_append_right _ hp);simp at this;omega⟩
theorem smallS_bad {ss:List Strm} {k:Nat} {s:Strm} (h:ss[k]?=some s) (hb:okS s=false):smallS ss=false:=by
 have:ss.all okS=false:=by
  rw[List.all_eq_false]
  exact⟨s,List.mem_of_getElem? h,by rw[hb];decide⟩
 rw[smallS,this]
 rfl
theorem okS_part {s:Strm} {x:Line} {p:Str} (hx:x∈s.paths) (hp:p∈partsL x) (hl:¬p.length≤40):okS s=false:=by
 have:(s.paths.all fun x=>(partsL x).all fun p=>decide (p.length≤40))=false:=by
  rw[List.all_eq_false]
  refine⟨x,hx,?_⟩
  rw[Bool.not_eq_true,List.all_eq_false]
  exact⟨p,hp,by simpa using hl⟩
 rw[okS,this]
 simp
set_option maxRecDepth 100000 in
set_option maxHeartbeats 8000000 in
theorem smallS_c (ss:List Strm) (y:Bool) (A:Option Addr) (n c:Nat) (w:World) (hv:StrmsU w A ss) (hn:ss.length=n) (hy:smallS ss=y) :
  Calls Tryz.prog 7 #[.slice A n c] w fun e w'=>e=.returned (.bool y)∧Calm w w':=by
 have hlen:=hv.len
 rw[hn] at hlen
 have HN:=Lib.hid hn
 have HV:=Lib.hid hv
 have HY:=Lib.hid hy
 clear hn hv hy
 go_enter Tryz.func7,Tryz.ntmps7
 go_wp2_with fail
 go_loopw [3,12] (fun u q wr=>∃(k S:Nat),k≤n∧q=.int .i64 k∧u=.int .i64 S∧S≤k * 40000000∧Hid (sumS ss k=S)∧Hid (∀j s,j < k→ss[j]?=some s→okS s=true)∧Hid (Calm w wr)) (fun _ q _=>n - (intOf q).toNat)
 case atStart=>exact⟨0,0,Nat.zero_le _,rfl,rfl,Nat.zero_le _,rfl,fun j r hj=>absurd hj (Nat.not_lt_zero _),Calm.refl _⟩
 case round=>
  obtain⟨k,S,hk,rfl,rfl,hS,HS,HG,HC⟩:=hrel
  obtain⟨wq,rfl⟩:∃wq,wq=wr:=⟨_,rfl⟩
  by_cases hlt:k < n
  ·obtain⟨b,o,s,PA,pc,rfl,hb,hr,hat,hsu⟩:=(HV.out.calm HC.out).get (k:=k) (by rw[HN.out];exact hlt)
   have c0:=hat.c0
   have c1:=hat.c1
   have c2:=hat.c2
   obtain⟨nm,hnm⟩:∃nm,s.name=nm:=⟨_,rfl⟩
   obtain⟨pa,hpa⟩:∃pa,s.parent=pa:=⟨_,rfl⟩
   obtain⟨np,hnp⟩:∃np,s.paths.length=np:=⟨_,rfl⟩
   have hnl:=hsu.name
   have hpl:=hsu.par
   have hnpl:=hsu.lines.len
   rw[hnm] at c0 hnl
   rw[hpa] at c1 hpl
   rw[hnp] at c2 hnpl
   have hb0:=bs_size nm
   have hb1:=bs_size pa
   have HLs:=Lib.hid hsu.lines
   have HR:=Lib.hid hr
   have HX:=Lib.hid (And.intro hnm (And.intro hpa hnp))
   have hbox:=BoxS.new wq nm pa PA np pc
   have HB:=Lib.hid hbox
   clear hat hsu hr hnm hpa hnp hbox
   by_cases h100:nm.length+pa.length≤100
   ·by_cases h15:np≤15
    ·have h1:Hid (nm.length+pa.length≤100):=h100
     have hd1:decide ((100:Int) < (nm.length:Int)+(pa.length:Int))=false:=by simp;omega
     have hd2:decide ((15:Int) < (np:Int))=false:=by simp;omega
     go_wp2_with fail
     obtain⟨wB,hwB⟩:∃wB,wB=wq.alloc (.cells #[.string (bs nm),.string (bs pa),.slice PA np pc] 49):=⟨_,rfl⟩
     rw[←hwB]
     have hcB:Calm wq wB:=by rw[hwB];exact (Calm.refl wq).alloc _
     have HCB:=Lib.hid hcB
     clear hwB hcB
     go_loopw [3,33] (fun u q wr=>∃(k2 S2:Nat),k2≤np∧q=.int .i64 k2∧u=.int .i64 S2∧S2≤S+k2 * 2097152∧Hid (sumS ss k+sumL (s.paths.take k2)=S2)∧Hid (∀j x,j < k2→s.paths[j]?=some x→∀p∈partsL x,p.length≤40)∧Hid (Calm wB wr)) (fun _ q _=>np - (intOf q).toNat)
     case atStart=>exact⟨0,S,Nat.zero_le _,rfl,rfl,by omega,by show _=_;rw[HS.out];rfl,fun j r hj=>absurd hj (Nat.not_lt_zero _),Calm.refl _⟩
     case round=>
      obtain⟨k2,S2,hk2,rfl,rfl,hS2,HS2,HG2,HC2⟩:=hrel
      obtain⟨wt,rfl⟩:∃wt,wt=wr:=⟨_,rfl⟩
      by_cases hlt2:k2 < np
      ·obtain⟨b',o',x,a,rfl,hb',hx,hxa,hru⟩:=(HLs.out.calm (HCB.out.trans HC2.out)).get (k:=k2) (by rw[HX.out.2.2];exact hlt2)
       have d0:=hxa.c0
       have d1:=hxa.c1
       have d2:=hxa.c2
       have d3:=hxa.c3
       have d4:=hxa.c4
       obtain⟨κ,h0⟩:∃κ,x.kind=κ:=⟨_,rfl⟩
       obtain⟨nl,h1⟩:∃npp,x.path.parts.length=npp:=⟨_,rfl⟩
       obtain⟨nr,h2⟩:∃nf,x.frm.parts.length=nf:=⟨_,rfl⟩
       obtain⟨rp,h3⟩:∃rp,x.path.rest=rp:=⟨_,rfl⟩
       obtain⟨rf,h4⟩:∃rf,x.frm.rest=rf:=⟨_,rfl⟩
       have hnll:nl≤1048576:=by rw[←h1];exact hru.lr.len
       have hnrl:nr≤1048576:=by rw[←h2];exact hru.rr.len
       rw[h0] at d0
       rw[h1] at d1
       rw[h3] at d2
       rw[h2] at d3
       rw[h4] at d4
       have HX2:=Lib.hid hx
       obtain⟨wL,hwL⟩:∃wL,wL=wt.alloc (.cells #[.int .i64 κ,.slice a.AL nl a.cl,.bool rp,.slice a.AR nr a.cr,.bool rf] 53):=⟨_,rfl⟩
       have hcL:Calm wt wL:=by rw[hwL];exact (Calm.refl wt).alloc _
       have hbl:BoxL wL wt.heap.size a κ nl nr rp rf:=by rw[hwL];exact BoxL.new wt a κ nl nr rp rf
       have g1:=hbl.c1
       have g3:=hbl.c3
       have hzL:=hbl.lt
       have HU:Hid (RuleU wL a x.rule):=hru.calm hcL
       have HWL:=Lib.hid hwL
       have HCL:=Lib.hid hcL
       have HNl:=Lib.hid (And.intro h1 h2)
       clear hxa hru h0 h1 h2 h3 h4 hx hwL hcL hbl
       have hlm:Hid ((partsL x).length=nl+nr):=by show (partsL x).length=_;rw[partsL,List.length_append,HNl.out.1,HNl.out.2]
       go_wp2_with fail
       rw[←HWL.out]
       go_region_law ((first
        |(refine step_app rfl (.const (.slice none 0 0)) (.tmp 50) rfl wL (.slice none 0 0) [] rfl (OwnS.nil (by first | exact Calm.refl _ | exact (Calm.refl _).drewN _)) a.AL nl a.cl (by simp[Act.eval,Act.put]) x.path.parts HNl.out.1 (HU.out.lr.calm (by first | exact Calm.refl _ | exact (Calm.refl _).drewN _)) (by simp;omega) ?_;intro v5 w5 hown5;have q3:=hown5.calm.at_ g3 hzL)
        |(refine step_app rfl (.tmp 51) (.tmp 54) rfl wL v5 x.path.parts (by simp[Act.eval,Act.put]) (hown5.to (by first | exact Calm.refl _ | exact (Calm.refl _).drewN _)) a.AR nr a.cr (by simp[Act.eval,Act.put]) x.frm.parts HNl.out.2 (HU.out.rr.calm (hown5.calm.trans (by first | exact Calm.refl _ | exact (Calm.refl _).drewN _))) (by rw[HNl.out.1];omega) ?_;intro v6 w6 hown6;obtain⟨A9,c9,hv9,hle9,hat9⟩:=owns_strs hown6.own;rw[show (x.path.parts++x.frm.parts).length=nl+nr from hlm.out] at hv9;subst hv9)))
       all_goals
        have hpl:Hid (∀p∈partsL x,p.length≤1048576):=fun p hp=>by
         rcases List.mem_append.1 hp with h | h
         ·exact HU.out.lr.each p h
         ·exact HU.out.rr.each p h
        have H6:=Lib.hid hown6
        have HAt:Hid (0 < (partsL x).length→∃g,A9=some ⟨g,0,none⟩∧wL.heap.size≤g∧g < w6.heap.size∧∀(k:Nat) l,(partsL x)[k]?=some l→w6.cell? ⟨g,k,none⟩=some (.string (bs l))):=hat9
        clear hown6 hat9 hown5 q3 g1 g3 hle9
        simp only[List.getElem_toArray,List.getElem_cons_succ,List.getElem_cons_zero,Act.put,List.setIfInBounds_toArray,List.set_cons_succ,List.set_cons_zero]
        go_wp2
        go_loop [57] (fun q=>∃i:Nat,i≤nl+nr∧q=.int .i64 i∧Hid (∀j p,j < i→(partsL x)[j]?=some p→p.length≤40)) (fun q=>(nl+nr) - (intOf q).toNat)
        case atStart=>exact⟨0,Nat.zero_le _,rfl,fun j x hj=>absurd hj (Nat.not_lt_zero _)⟩
        case round=>
         obtain⟨i,hi,rfl,HI⟩:=hrel
         by_cases hilt:i < nl+nr
         ·obtain⟨g,rfl,_,hg,hcells⟩:=HAt.out (by rw[hlm.out];omega)
          obtain⟨p,hp⟩:∃p,(partsL x)[i]?=some p:=⟨_,List.getElem?_eq_getElem (by rw[hlm.out];exact hilt)⟩
          have hcx:=hcells i p hp
          have hxl:=hpl.out p (List.mem_of_getElem? hp)
          have HP:=Lib.hid hp
          clear hcells hp
          have hsz:=bs_size p
          by_cases h40:p.length≤40
          ·go_wp2
           go_round
           case rel=>exact⟨i+1,by omega,by go_num,snoc_at (P:=fun p:Str=>p.length≤40) HP.out h40 HI.out⟩
           case measure=>simp[intOf];omega
          ·have hE:Hid (smallS ss=false):=smallS_bad HR.out (okS_part (List.mem_of_getElem? HX2.out) (List.mem_of_getElem? HP.out) h40)
           go_wp2
           go_ret
           exact⟨ret_bool (by rw[←HY.out,hE.out]),HC.out.trans (HCB.out.trans (HC2.out.trans (HCL.out.trans H6.out.calm)))⟩
         ·obtain rfl:i=nl+nr:=by omega
          go_wp2
          go_roundw
          case rel=>
           refine⟨k2+1,S2+(nl+nr),by omega,by go_num,by go_num,by omega,?_,fun j q hj hq p hp=>?_,HC2.out.trans (HCL.out.trans H6.out.calm)⟩
           ·show _=_
            rw[sumL_succ HX2.out,←HS2.out,HNl.out.1,HNl.out.2]
            omega
           ·by_cases e:j=k2
            ·subst e
             rw[HX2.out] at hq
             cases hq
             obtain⟨t,ht,rfl⟩:=List.mem_iff_getElem.1 hp
             exact HI.out t _ (by rw[←hlm.out];exact ht) (List.getElem?_eq_getElem ht)
            ·exact HG2.out j q (by omega) hq p hp
          case measure=>simp[intOf];omega
      ·obtain rfl:k2=np:=by omega
       go_wp2_with fail
       go_roundw
       case rel=>
        refine⟨k+1,S2,by omega,by go_num,rfl,by omega,?_,fun j q hj hq=>?_,HC.out.trans (HCB.out.trans HC2.out)⟩
        ·show sumS ss (k+1)=_
         rw[sumS_succ HR.out,←HS2.out,List.take_of_length_le (l:=s.paths) (by rw[HX.out.2.2];exact Nat.le_refl _)]
        ·by_cases e:j=k
         ·subst e
          rw[HR.out] at hq
          cases hq
          rw[okS,HX.out.1,HX.out.2.1,HX.out.2.2,decide_eq_true h1.out,decide_eq_true h15]
          simp only[Bool.true_and]
          refine List.all_eq_true.2 fun x hx=>List.all_eq_true.2 fun p hp=>?_
          simpa using all_to HX.out.2.2 HG2.out x hx p hp
         ·exact HG.out j q (by omega) hq
       case measure=>simp[intOf];omega
    ·have hE:Hid (smallS ss=false):=smallS_bad HR.out (by rw[okS,HX.out.2.2,decide_eq_false h15];simp)
     have hd1:decide ((100:Int) < (nm.length:Int)+(pa.length:Int))=false:=by simp;omega
     go_wp2_with fail
     go_ret
     exact⟨ret_bool (by rw[←HY.out,hE.out]),HC.out.trans ((Calm.refl _).alloc _)⟩
   ·have hE:Hid (smallS ss=false):=smallS_bad HR.out (by rw[okS,HX.out.1,HX.out.2.1,decide_eq_false h100];simp)
    have hd1:decide ((100:Int) < (nm.length:Int)+(pa.length:Int))=true:=by simp;omega
    go_wp2_with fail
    go_ret
    exact⟨ret_bool (by rw[←HY.out,hE.out]),HC.out.trans ((Calm.refl _).alloc _)⟩
  ·obtain rfl:k=n:=by omega
   have hE:Hid (smallS ss=(decide (k≤20) && decide (S≤150))):=by
    show smallS ss=_
    have h1:ss.all okS=true:=List.all_eq_true.2 (all_to HN.out HG.out)
    rw[smallS,h1,HN.out,HS.out]
    rfl
   by_cases h20:k≤20
   ·by_cases h150:S≤150
    ·go_wp2_with fail
     go_ret
     exact⟨ret_bool (by rw[←HY.out,hE.out];simp[h20,h150];omega),HC.out⟩
    ·go_wp2_with fail
     go_ret
     exact⟨ret_bool (by rw[←HY.out,hE.out];simp[h20,h150];omega),HC.out⟩
   ·go_wp2_with fail
    go_ret
    exact⟨ret_bool (by rw[←HY.out,hE.out];simp[h20]),HC.out⟩
def exS:List Strm:=[⟨[109,97,105,110],[],[allLine]⟩]
theorem exS_loc:locE exS [109,97,105,110] [47,47,118,105,101,119,47,97]=(1,[47,47,109,97,105,110,47,97],0):=by decide +kernel
theorem exS_small:SmallSS exS:=fun s hs x hx=>by
 rw[exS,List.mem_singleton] at hs
 subst hs
 simp only[List.mem_singleton] at hx
 subst hx
 exact⟨by decide,by decide,by decide,by decide⟩
def exSW (w:World):World:=
 ((w.alloc (Obj.cells #[Value.string ⟨#[118,105,101,119]⟩] 9)).alloc
  (Obj.cells #[Value.int .i64 1,Value.slice (some { block:=w.heap.size,off:=0 }) 1 1,Value.bool true,Value.slice none 0 0,Value.bool false] 53)).alloc
  (Obj.cells #[Value.string ⟨#[109,97,105,110]⟩,Value.string ⟨#[]⟩,Value.slice (some { block:=w.heap.size+1,off:=0 }) 1 1] 49)
theorem exSW_calm (w:World):Calm w (exSW w):=(((Calm.refl w).alloc _).alloc _).alloc _
theorem exSW_size (w:World):(exSW w).heap.size=w.heap.size+3:=by simp[exSW]
theorem news_at {v w':World} {cs:Array Value} {t:TypeId} {n k:Nat} {x:Value} (hc:Calm (v.alloc (.cells cs t)) w') (hs:v.heap.size=n) (h:cs[k]?=some x):w'.cell? ⟨n,k,none⟩=some x:=by
 subst hs
 refine hc.at_ ?_ (by simp)
 rw[cell_of_row _ v.heap.size k _ _ _ (heap_alloc_new v _)]
 exact h
theorem exSW_strms (w:World):StrmsU (exSW w) (some ⟨w.heap.size+1+1,0,none⟩) exS:=by
 refine⟨by decide,fun _=>⟨_,0,rfl,by rw[exSW_size];omega,fun k s hs=>?_⟩⟩
 match k,hs with
 |0,hs=>
  cases hs
  refine⟨some ⟨w.heap.size+1,0,none⟩,1,⟨?_,?_,?_⟩,⟨by decide,by decide,⟨by decide,fun _=>⟨_,0,rfl,by rw[exSW_size];omega,fun k x hx=>?_⟩⟩,Nat.le_refl 1,by show 1≤9223372036854775807;omega⟩⟩
  ·exact news_at (v:=(w.alloc _).alloc _) (Calm.refl _) (by simp) rfl
  ·exact news_at (v:=(w.alloc _).alloc _) (Calm.refl _) (by simp) rfl
  ·exact news_at (v:=(w.alloc _).alloc _) (Calm.refl _) (by simp) rfl
  ·match k,hx with
   |0,hx=>
    cases hx
    refine⟨⟨some ⟨w.heap.size,0,none⟩,1,none,0⟩,⟨?_,?_,?_,?_,?_⟩,⟨⟨by decide,by decide,fun _=>⟨_,0,rfl,by rw[exSW_size];omega,fun k l hl=>?_⟩⟩,⟨by decide,by decide,fun h=>absurd h (by decide)⟩,Nat.le_refl 1,Nat.le_refl 0,(by show 1≤9223372036854775807;omega),(by show 0≤9223372036854775807;omega)⟩⟩
    ·exact news_at (v:=w.alloc _) ((Calm.refl _).alloc _) (by simp) rfl
    ·exact news_at (v:=w.alloc _) ((Calm.refl _).alloc _) (by simp) rfl
    ·exact news_at (v:=w.alloc _) ((Calm.refl _).alloc _) (by simp) rfl
    ·exact news_at (v:=w.alloc _) ((Calm.refl _).alloc _) (by simp) rfl
    ·exact news_at (v:=w.alloc _) ((Calm.refl _).alloc _) (by simp) rfl
    ·rw[Nat.zero_add]
     refine news_at (v:=w) (((Calm.refl _).alloc _).alloc _) rfl ?_
     match k,hl with
     |0,hl=>cases hl;rfl
theorem exS_c (w:World) (hM:MaxL w):Calls Tryz.prog 13 #[.slice (some ⟨w.heap.size+1+1,0,none⟩) 1 1,.string ⟨#[109,97,105,110]⟩,.string ⟨#[47,47,118,105,101,119,47,97]⟩] (exSW w) fun e w'=>e=.returned (.tuple #[.int .i64 1,.string ⟨#[47,47,109,97,105,110,47,97]⟩,.int .i64 0])∧Calm (exSW w) w':=by
 have:=locate_c exS [109,97,105,110] [47,47,118,105,101,119,47,97] (some ⟨w.heap.size+1+1,0,none⟩) 1 1 (exSW w) (exSW_strms w) rfl (by decide) (by decide) exS_small (hM.calm (exSW_calm w))
 rw[exS_loc] at this
 exact this
set_option maxRecDepth 100000 in
set_option maxHeartbeats 4000000 in
theorem awakeS_c (w:World) (ht:MaxL w):Calls Tryz.prog 8 #[] w fun e w'=>e=.returned (.bool true)∧Calm w w':=by
 have HT:=Lib.hid ht
 clear ht
 go_enter Tryz.func8,Tryz.ntmps8
 go_wp2_with fail
 refine ((exS_c w HT.out).mono ?_)
 rintro e w2 ⟨rfl,hc2⟩
 go_wp2_with fail
 go_ret
 exact⟨rfl,(exSW_calm w).trans hc2⟩
end Go.Proofs.YtdcdabbepnahnaaGreatDoor
namespace Go.Proofs.YtdcdabbepnahnaaGreatDoor
open Go Go.ChangeShapes Go.WideShapes Go.RowKit Go.Deep Sy
theorem cell_lt {w:World} {a:Addr} {v:Value} (h:w.cell? a=some v):a.block < w.heap.size∧a.spot=none:=by
 unfold World.cell? at h
 split at h
 ·rename_i h1
  constructor
  ·rcases Nat.lt_or_ge a.block w.heap.size with h2 | h2
   ·exact h2
   ·rw[Array.getElem?_eq_none h2] at h1;cases h1
  ·split at h
   ·cases h
   ·rename_i h2;simpa using h2
 ·cases h
section
variable {H:Type} {enc:TypeId × Value→H} {w:World}
theorem u_strs:Tryz.prog.underlying 41=some (.slice 9):=Tryz.underlying41
theorem u_str:Tryz.prog.underlying 9=some .string:=Tryz.underlying9
theorem u_bool:Tryz.prog.underlying 4=some .bool:=Tryz.underlying4
theorem c_str:Tryz.prog.cellsOf 9=1:=by kernel_rfl
theorem c_pat:Tryz.prog.cellsOf 51=2:=by kernel_rfl
set_option maxRecDepth 20000 in
theorem open_strD {v:Value} {b0:Nat} {d:DataW H} {p:List MemPlace} (hv:Value.okWide Tryz.prog w .any b0 9 v) (h:DataW.Trod enc Tryz.prog w 0 (fun _=>true) true 9 v d p) :
  ∃s:Str,v=.string (bs s)∧d=.lit (.string s)∧s.length≤9223372036854775807:=by
 obtain⟨s,rfl,hd,_,hs⟩:=Go.ChangeMaps.open_string Tryz.underlying9 hv h
 refine⟨s.data.toList,by rw[bs_eta],hd,?_⟩
 have h2:s.data.toList.length=s.size:=rfl
 rw[h2]
 exact hs
end
end Go.Proofs.YtdcdabbepnahnaaGreatDoor
namespace Go.Proofs.YtdcdabbepnahnaaGreatDoor.bulks
theorem one_le {H:Type} (d:DataW H):1≤Rows.uptoBulk d:=by
 cases d with
 |lit l=>cases l <;> simp[Rows.uptoBulk]
 |nil=>simp[Rows.uptoBulk]
 |ptr d=>simp[Rows.uptoBulk]
 |slice elems spare=>simp[Rows.uptoBulk]
 |agg parts=>simp[Rows.uptoBulk]
 |iface t d=>simp[Rows.uptoBulk]
 |map entries=>simp[Rows.uptoBulk]
 |held h=>simp[Rows.uptoBulk]
theorem part_le {H:Type} {d:DataW H} {l:List (DataW H)} (h:d∈l):Rows.uptoBulk d≤Rows.uptoBulkAll l:=by
 induction l with
 |nil=>cases h
 |cons x r ih=>
  simp only[Rows.uptoBulkAll]
  cases List.mem_cons.1 h with
  |inl e=>subst e;omega
  |inr e=>have:=ih e;omega
theorem length_le {H:Type} (l:List (DataW H)):l.length≤Rows.uptoBulkAll l:=by
 induction l with
 |nil=>simp[Rows.uptoBulkAll]
 |cons x r ih=>have:=one_le x;simp only[Rows.uptoBulkAll,List.length_cons];omega
theorem slice_le {H:Type} (elems spare:List (DataW H)):elems.length+spare.length+1≤Rows.uptoBulk (.slice elems spare):=by
 have h1:=length_le elems
 have h2:=length_le spare
 simp only[Rows.uptoBulk]
 omega
theorem slice_elems {H:Type} (elems spare:List (DataW H)):Rows.uptoBulkAll elems+1≤Rows.uptoBulk (.slice elems spare):=by
 simp only[Rows.uptoBulk]
 omega
theorem slice_part {H:Type} {d:DataW H} {elems spare:List (DataW H)} (h:d∈elems):Rows.uptoBulk d≤Rows.uptoBulk (.slice elems spare):=by
 have h1:=part_le h
 have h2:=slice_elems elems spare
 omega
theorem agg_part {H:Type} {d:DataW H} {parts:List (DataW H)} (h:d∈parts):Rows.uptoBulk d≤Rows.uptoBulk (.agg parts):=by
 have h1:=part_le h
 simp only[Rows.uptoBulk]
 omega
theorem all_part {H:Type} {d:DataW H} {l:List (DataW H)} {B:Nat} (hb:Rows.uptoBulkAll l≤B) (h:d∈l):Rows.uptoBulk d≤B:=Nat.le_trans (part_le h) hb
theorem string_eq {H:Type} (bytes:List UInt8):Rows.uptoBulk (DataW.lit (H:=H) (.string bytes))=bytes.length+1:=by
 simp[Rows.uptoBulk]
end Go.Proofs.YtdcdabbepnahnaaGreatDoor.bulks
namespace Go.Proofs.YtdcdabbepnahnaaGreatDoor
open Go Go.ChangeShapes Go.WideShapes Go.RowKit Go.Deep Sy
section
variable {H:Type} {enc:TypeId × Value→H} {w:World}
set_option maxRecDepth 20000 in
theorem open_strU {fuel:Nat} {cs:List Value} {x:DataW H × List MemPlace} (h:DataW.trod enc Tryz.prog w 0 (fun _=>true) true fuel 41 cs=some x) (hb:Rows.uptoBulk x.1≤1048576) :
  ∃A ls c,cs=[.slice A (List.length ls) c]∧ls.length≤c∧c≤140737488355328∧StrsU w A ls:=by
 rcases open_strs u_strs u_str c_str h with⟨rfl,rfl⟩ | ⟨a,len,cap,m,Sx,rfl,_,hl,hm,hmm,rfl,hx⟩
 ·exact⟨none,[],0,rfl,Nat.le_refl _,by decide,by simp,(fun l hl=>by cases hl),(fun h0=>absurd h0 (Nat.lt_irrefl _))⟩
 ·have hmc:m=cap:=hmm
  subst hmc
  have hs:=bulks.slice_le ((List.range len).map fun i=>DataW.lit (H:=H) (.string (Sx i).data.toList)) ((List.range (m - len)).map fun j=>.lit (.string (Sx (len+j)).data.toList))
  simp only[List.length_map,List.length_range] at hs
  have heach:∀i,i < len→(Sx i).data.toList.length≤1048576:=fun i hi=>by
   have h1:=bulks.slice_part (spare:=(List.range (m - len)).map fun j=>DataW.lit (H:=H) (.string (Sx (len+j)).data.toList)) (List.mem_map.2 ⟨i,List.mem_range.2 hi,rfl⟩:DataW.lit (H:=H) (.string (Sx i).data.toList)∈(List.range len).map fun i=>DataW.lit (H:=H) (.string (Sx i).data.toList))
   rw[bulks.string_eq] at h1
   have h2:=Nat.le_trans h1 hb
   omega
  have hcl:m≤1048576:=by
   have h2:=Nat.le_trans hs hb
   omega
  refine⟨some a,(List.range len).map fun i=>(Sx i).data.toList,m,by simp,by simpa using hl,by omega,by simp;omega,fun l hl2=>?_,fun h0=>?_⟩
  ·obtain⟨i,hi,rfl⟩:=List.mem_map.1 hl2
   exact heach i (List.mem_range.1 hi)
  ·have h0':0 < len:=by simpa using h0
   obtain⟨q1,q2⟩:=cell_lt (hx 0 (by omega)).1
   obtain⟨ab,ao,asp⟩:=a
   have q3:asp=none:=q2
   subst q3
   refine⟨ab,ao,rfl,q1,fun k l hk=>?_⟩
   rw[List.getElem?_map] at hk
   obtain⟨i,hi,rfl⟩:=Option.map_eq_some_iff.1 hk
   obtain⟨hlt,he⟩:=List.getElem?_eq_some_iff.1 hi
   rw[List.getElem_range] at he
   subst he
   rw[List.length_range] at hlt
   have:=(hx k (by omega)).1
   rw[add_plain] at this
   rw[this,bs_eta]
set_option maxRecDepth 20000 in
theorem open_patU {fuel:Nat} {cs:List Value} {x:DataW H × List MemPlace} (h:DataW.trod enc Tryz.prog w 0 (fun _=>true) true fuel 51 cs=some x) (hb:Rows.uptoBulk x.1≤1048576) :
  ∃(p:Pat) (A:Option Addr) (c:Nat),cs=[.slice A p.parts.length c,.bool p.rest]∧p.parts.length≤c∧c≤140737488355328∧StrsU w A p.parts:=by
 obtain⟨y0,y1,n,rfl,hlen,h0,h1⟩:=trod_struct2 Tryz.underlying51 h
 rw[c_pat] at hlen
 match cs,hlen with
 |[c0,c1],_=>
  have e0:DataW.trod enc Tryz.prog w 0 (fun _=>true) true n 41 [c0]=some y0:=h0
  have e1:DataW.trod enc Tryz.prog w 0 (fun _=>true) true n 4 [c1]=some y1:=h1
  obtain⟨A,ls,c,g1,g2,g3,g4⟩:=open_strU e0 (Nat.le_trans (bulks.agg_part (by simp)) hb)
  obtain⟨r,g5,_⟩:=DataW.trod_bool u_bool e1
  simp only[List.cons.injEq,and_true] at g1 g5
  subst g1
  subst g5
  exact⟨⟨ls,r⟩,A,c,rfl,g2,g3,g4⟩
end
section
variable {H:Type} {enc:TypeId × Value→H} {w:World}
theorem u_strms:Tryz.prog.underlying 22=some (.slice 49):=Tryz.underlying22
theorem u_lines:Tryz.prog.underlying 47=some (.slice 53):=Tryz.underlying47
theorem u_int:Tryz.prog.underlying 3=some (.int .i64):=Tryz.underlying3
theorem c_line:Tryz.prog.cellsOf 53=5:=by kernel_rfl
theorem c_strm:Tryz.prog.cellsOf 49=3:=by kernel_rfl
set_option maxRecDepth 20000 in
theorem open_lineU {fuel:Nat} {cs:List Value} {x:DataW H × List MemPlace} (h:DataW.trod enc Tryz.prog w 0 (fun _=>true) true fuel 53 cs=some x) (hb:Rows.uptoBulk x.1≤1048576) :
  ∃(r:Line) (a:Pl),cs=[.int .i64 r.kind,.slice a.AL r.path.parts.length a.cl,.bool r.path.rest,.slice a.AR r.frm.parts.length a.cr,.bool r.frm.rest]∧RuleU w a r.rule:=by
 obtain⟨y0,y1,y2,n,rfl,hlen,h0,h1,h2⟩:=trod_struct3 Tryz.underlying53 h
 rw[c_line] at hlen
 match cs,hlen with
 |[c0,c1,c2,c3,c4],_=>
  have e0:DataW.trod enc Tryz.prog w 0 (fun _=>true) true n 3 [c0]=some y0:=h0
  have e1:DataW.trod enc Tryz.prog w 0 (fun _=>true) true n 51 [c1,c2]=some y1:=by simpa[c_pat] using h1
  have e2:DataW.trod enc Tryz.prog w 0 (fun _=>true) true n 51 [c3,c4]=some y2:=by simpa[c_pat] using h2
  obtain⟨k0,g0,_⟩:=DataW.trod_int u_int e0
  obtain⟨p1,A1,k1,g1,g2,g3,g4⟩:=open_patU e1 (Nat.le_trans (bulks.agg_part (by simp)) hb)
  obtain⟨p2,A2,k2,j1,j2,j3,j4⟩:=open_patU e2 (Nat.le_trans (bulks.agg_part (by simp)) hb)
  simp only[List.cons.injEq,and_true] at g0 g1 j1
  subst g0
  obtain⟨rfl,rfl⟩:=g1
  obtain⟨rfl,rfl⟩:=j1
  exact⟨⟨k0,p1,p2⟩,⟨A1,k1,A2,k2⟩,rfl,g4,j4,g2,j2,Nat.le_trans g3 (by decide),Nat.le_trans j3 (by decide)⟩
set_option maxRecDepth 20000 in
theorem open_linesU {fuel:Nat} {cs:List Value} {x:DataW H × List MemPlace} (h:DataW.trod enc Tryz.prog w 0 (fun _=>true) true fuel 47 cs=some x) (hb:Rows.uptoBulk x.1≤1048576) :
  ∃A ls c,cs=[.slice A (List.length ls) c]∧ls.length≤c∧c≤1048576∧LinesU w A ls:=by
 rcases open_slice u_lines h with⟨rfl,rfl⟩ | ⟨a,len,cap,m,n,D,Pq,rfl,_,hl,hm,hmm,rfl,hx⟩
 ·exact⟨none,[],0,rfl,Nat.le_refl _,by decide,by simp,(fun h0=>absurd h0 (Nat.lt_irrefl _))⟩
 ·have hmc:m=cap:=hmm
  subst hmc
  have hs:=bulks.slice_le ((List.range len).map D) ((List.range (m - len)).map fun j=>D (len+j))
  simp only[List.length_map,List.length_range] at hs
  have hcl:m≤1048576:=by
   have h2:=Nat.le_trans hs hb
   omega
  have each:∀i,i < len→∃y:Line × Pl,(∀ab ao,a=⟨ab,ao,none⟩→LineAt w ab (ao+i * 5) y.2 y.1)∧RuleU w y.2 y.1.rule∧(w.cell? (a.add (i * 5))).isSome=true:=fun i hi=>by
   obtain⟨cs',hc,ht⟩:=hx i (by omega)
   rw[c_line] at hc
   obtain⟨r,p,rfl,g⟩:=open_lineU ht (Nat.le_trans (bulks.slice_part (List.mem_map.2 ⟨i,List.mem_range.2 hi,rfl⟩)) hb)
   obtain⟨_,_,hat⟩:=World.cells?_some hc
   have h0:=hat 0 (by decide)
   have h1:=hat 1 (by decide)
   have h2:=hat 2 (by decide)
   have h3:=hat 3 (by decide)
   have h4:=hat 4 (by decide)
   refine⟨⟨r,p⟩,fun ab ao e=>?_,g,?_⟩
   ·subst e
    rw[add_plain] at h0 h1 h2 h3 h4
    rw[add_plain] at h0 h1 h2 h3 h4
    exact⟨h0,h1,h2,h3,h4⟩
   ·have h5:(a.add (i * 5)).add 0=a.add (i * 5):=by simp[Addr.add]
    rw[h5] at h0
    rw[h0]
    rfl
  obtain⟨R,hR⟩:=choose_lt each
  refine⟨some a,(List.range len).map fun i=>(R i).1,m,by simp,by simpa using hl,hcl,by simp;omega,fun h0=>?_⟩
  have h0':0 < len:=by simpa using h0
  obtain⟨q0,hq0⟩:=Option.isSome_iff_exists.1 (hR 0 h0').2.2
  obtain⟨q1,q2⟩:=cell_lt hq0
  obtain⟨ab,ao,asp⟩:=a
  have q3:asp=none:=q2
  subst q3
  refine⟨ab,ao,rfl,q1,fun k r hk=>?_⟩
  rw[List.getElem?_map] at hk
  obtain⟨i,hi,rfl⟩:=Option.map_eq_some_iff.1 hk
  obtain⟨hlt,he⟩:=List.getElem?_eq_some_iff.1 hi
  rw[List.getElem_range] at he
  subst he
  rw[List.length_range] at hlt
  exact⟨(R k).2,(hR k hlt).1 ab ao rfl,(hR k hlt).2.1⟩
set_option maxRecDepth 20000 in
theorem open_strmU {fuel:Nat} {cs:List Value} {x:DataW H × List MemPlace} (h:DataW.trod enc Tryz.prog w 0 (fun _=>true) true fuel 49 cs=some x) (hb:Rows.uptoBulk x.1≤1048576) :
  ∃(s:Strm) (A:Option Addr) (c:Nat),cs=[.string (bs s.name),.string (bs s.parent),.slice A s.paths.length c]∧StrmU w A c s∧s.paths.length≤1048576:=by
 obtain⟨y0,y1,y2,n,rfl,hlen,h0,h1,h2⟩:=trod_struct3 Tryz.underlying49 h
 rw[c_strm] at hlen
 match cs,hlen with
 |[c0,c1,c2],_=>
  have e0:DataW.trod enc Tryz.prog w 0 (fun _=>true) true n 9 [c0]=some y0:=h0
  have e1:DataW.trod enc Tryz.prog w 0 (fun _=>true) true n 9 [c1]=some y1:=h1
  have e2:DataW.trod enc Tryz.prog w 0 (fun _=>true) true n 47 [c2]=some y2:=h2
  obtain⟨s0,g0,rfl,_⟩:=DataW.trod_string u_str e0
  obtain⟨s1,g1,rfl,_⟩:=DataW.trod_string u_str e1
  obtain⟨A,ls,c,j1,j2,j3,j4⟩:=open_linesU e2 (Nat.le_trans (bulks.agg_part (by simp)) hb)
  simp only[List.cons.injEq,and_true] at g0 g1 j1
  subst g0
  subst g1
  subst j1
  have b0:=Nat.le_trans (bulks.agg_part (d:=DataW.lit (H:=H) (.string s0.data.toList)) (parts:=[DataW.lit (.string s0.data.toList),DataW.lit (.string s1.data.toList),y2.1]) (by simp)) hb
  have b1:=Nat.le_trans (bulks.agg_part (d:=DataW.lit (H:=H) (.string s1.data.toList)) (parts:=[DataW.lit (.string s0.data.toList),DataW.lit (.string s1.data.toList),y2.1]) (by simp)) hb
  rw[bulks.string_eq] at b0 b1
  exact⟨⟨s0.data.toList,s1.data.toList,ls⟩,A,c,by simp only[bs_eta],⟨by show s0.data.toList.length≤_;omega,by show s1.data.toList.length≤_;omega,j4,j2,Nat.le_trans j3 (by decide)⟩,Nat.le_trans j2 j3⟩
set_option maxRecDepth 20000 in
theorem open_strmsU {fuel:Nat} {cs:List Value} {x:DataW H × List MemPlace} (h:DataW.trod enc Tryz.prog w 0 (fun _=>true) true fuel 22 cs=some x) (hb:Rows.uptoBulk x.1≤1048576) :
  ∃A ss c,cs=[.slice A (List.length ss) c]∧ss.length≤c∧c≤1048576∧StrmsU w A ss∧∀t∈ss,t.paths.length≤1048576:=by
 rcases open_slice u_strms h with⟨rfl,rfl⟩ | ⟨a,len,cap,m,n,D,Pq,rfl,_,hl,hm,hmm,rfl,hx⟩
 ·exact⟨none,[],0,rfl,Nat.le_refl _,by decide,⟨by simp,(fun h0=>absurd h0 (Nat.lt_irrefl _))⟩,(fun t ht=>by cases ht)⟩
 ·have hmc:m=cap:=hmm
  subst hmc
  have hs:=bulks.slice_le ((List.range len).map D) ((List.range (m - len)).map fun j=>D (len+j))
  simp only[List.length_map,List.length_range] at hs
  have hcl:m≤1048576:=by
   have h2:=Nat.le_trans hs hb
   omega
  have each:∀i,i < len→∃y:Strm × Option Addr × Nat,(∀ab ao,a=⟨ab,ao,none⟩→StrmAt w ab (ao+i * 3) y.2.1 y.2.2 y.1)∧StrmU w y.2.1 y.2.2 y.1∧(w.cell? (a.add (i * 3))).isSome=true∧y.1.paths.length≤1048576:=fun i hi=>by
   obtain⟨cs',hc,ht⟩:=hx i (by omega)
   rw[c_strm] at hc
   obtain⟨r,A,c,rfl,g⟩:=open_strmU ht (Nat.le_trans (bulks.slice_part (List.mem_map.2 ⟨i,List.mem_range.2 hi,rfl⟩)) hb)
   obtain⟨_,_,hat⟩:=World.cells?_some hc
   have h0:=hat 0 (by decide)
   have h1:=hat 1 (by decide)
   have h2:=hat 2 (by decide)
   refine⟨⟨r,A,c⟩,fun ab ao e=>?_,g.1,?_,g.2⟩
   ·subst e
    rw[add_plain] at h0 h1 h2
    rw[add_plain] at h0 h1 h2
    exact⟨h0,h1,h2⟩
   ·have h5:(a.add (i * 3)).add 0=a.add (i * 3):=by simp[Addr.add]
    rw[h5] at h0
    rw[h0]
    rfl
  obtain⟨R,hR⟩:=choose_lt each
  refine⟨some a,(List.range len).map fun i=>(R i).1,m,by simp,by simpa using hl,hcl,⟨by simp;omega,fun h0=>?_⟩,fun t ht=>by
   obtain⟨i,hi,rfl⟩:=List.mem_map.1 ht
   exact (hR i (List.mem_range.1 hi)).2.2.2⟩
  have h0':0 < len:=by simpa using h0
  obtain⟨q0,hq0⟩:=Option.isSome_iff_exists.1 (hR 0 h0').2.2.1
  obtain⟨q1,q2⟩:=cell_lt hq0
  obtain⟨ab,ao,asp⟩:=a
  have q3:asp=none:=q2
  subst q3
  refine⟨ab,ao,rfl,q1,fun k r hk=>?_⟩
  rw[List.getElem?_map] at hk
  obtain⟨i,hi,rfl⟩:=Option.map_eq_some_iff.1 hk
  obtain⟨hlt,he⟩:=List.getElem?_eq_some_iff.1 hi
  rw[List.getElem_range] at he
  subst he
  rw[List.length_range] at hlt
  exact⟨(R k).2.1,(R k).2.2,(hR k hlt).1 ab ao rfl,(hR k hlt).2.1⟩
set_option maxRecDepth 20000 in
theorem open_strmsL {v:Value} {b0:Nat} {d:DataW H} {p:List MemPlace} (hv:Value.okWide Tryz.prog w .any b0 22 v) (h:DataW.Trod enc Tryz.prog w 0 (fun _=>true) true 22 v d p) (hb:Rows.uptoBulk d≤1048576) :
  ∃(A:Option Addr) (ss:List Strm) (c:Nat),v=.slice A ss.length c∧StrmsU w A ss∧ss.length≤c∧c≤1048576∧∀t∈ss,t.paths.length≤1048576:=by
 obtain⟨a0,len,cap,rfl⟩:=okWide_slice Tryz.underlying22 hv
 obtain⟨fuel,hf⟩:=h
 obtain⟨A,ss,c,h1,h2,h3,h4,h5⟩:=open_strmsU hf hb
 simp only[Value.cells,List.cons.injEq,and_true] at h1
 exact⟨A,ss,c,h1,h4,h2,h3,h5⟩
end
end Go.Proofs.YtdcdabbepnahnaaGreatDoor
namespace Go.Proofs.YtdcdabbepnahnaaGreatDoor
open Go Go.RowKit Sy
def zl:Line:=⟨0,⟨[],false⟩,⟨[],false⟩⟩
def arrL (a:Pl) (x:Line):Array Value:=#[.int .i64 x.kind,.slice a.AL x.path.parts.length a.cl,.bool x.path.rest,.slice a.AR x.frm.parts.length a.cr,.bool x.frm.rest]
theorem Held.set5 {W:World} {B:Nat} {a a':Pl} {x x':Line} {t:TypeId} {κ:Int} {np nf:Nat} {rp rf:Bool} (h:Held W B (arrL a x) t) (h0:x'.kind=κ) (h1:x'.path.parts.length=np) (h2:x'.frm.parts.length=nf) (h3:x'.path.rest=rp) (h4:x'.frm.rest=rf) :
  Held (((((W.setCell ⟨B,0,none⟩ (.int .i64 κ)).setCell ⟨B,1,none⟩ (.slice a'.AL np a'.cl)).setCell ⟨B,2,none⟩ (.bool rp)).setCell ⟨B,3,none⟩ (.slice a'.AR nf a'.cr)).setCell ⟨B,4,none⟩ (.bool rf)) B (arrL a' x') t:=by
 subst h0 h1 h2 h3 h4
 have:=((((h.set 0 (.int .i64 x'.kind)).set 1 (.slice a'.AL x'.path.parts.length a'.cl)).set 2 (.bool x'.path.rest)).set 3 (.slice a'.AR x'.frm.parts.length a'.cr)).set 4 (.bool x'.frm.rest)
 simpa[arrL] using this
theorem locE_ok8 {ss:List Strm} {nm:Str} (h:readyE ss nm=0):∃i,Sy.Good ss∧(strm ss i).name=nm∧i < ss.length∧∀s,locE ss nm s=((locI ss i s).1,(locI ss i s).2,0):=by
 have h0:(strErr ss).2=0:=Classical.byContradiction fun hne=>by
  rw[ready_bad hne] at h
  exact hne h
 rcases hf:findI ss nm with _ | i
 ·rw[ready_none h0 hf] at h
  cases h
 ·obtain⟨t,ht,hn,_⟩:=findI_some hf
  refine⟨i,good_iff.1 h0,by rw[strm_at ht,hn],findI_lt hf,fun s=>?_⟩
  rw[locE,if_pos h,hf]
  rfl
set_option maxHeartbeats 2000000 in
theorem ready8_c (ss:List Strm) (nm:Str) (A:Option Addr) (n c:Nat) (w:World) (hs:StrmsU w A ss) (hn:ss.length=n) (hle:n≤1000) (hsm:SmallSS ss) :
  Calls Tryz.prog 10 #[.slice A n c,.string (bs nm)] w fun e w'=>e=.returned (.int .i64 (readyE ss nm))∧Calm w w':=by
 have K1:=rcheck8_c ss A n c w hs hn hle hsm
 have K2:Hid (∀W,Calm w W→Calls Tryz.prog 25 #[.slice A n c,.string (bs nm)] W fun e w'=>e=.returned (.int .i64 (oZ (findI ss nm)))∧Calm W w'):=fun W hW=>rfind_c ss nm A n c W (hs.calm hW) hn
 have hE:Hid (readyE ss nm=if (strErr ss).2≠0 then (strErr ss).2 else if findI ss nm=none then 86 else 0):=rfl
 obtain⟨a,ha⟩:∃a,(strErr ss).1=a:=⟨_,rfl⟩
 obtain⟨x,hx⟩:∃x,(strErr ss).2=x:=⟨_,rfl⟩
 rw[ha,hx] at K1
 rw[hx] at hE
 clear ha hx hs hn hsm
 by_cases hx0:x=0
 ·subst hx0
  obtain⟨o,ho⟩:∃o,findI ss nm=o:=⟨_,rfl⟩
  obtain⟨z,hz⟩:∃z,oZ o=z:=⟨_,rfl⟩
  rw[ho,hz] at K2
  rw[ho] at hE
  have HZ:=Lib.hid hz
  clear ho hz
  cases o with
  |none=>
   obtain rfl:-1=z:=HZ.out
   have hE2:Hid (readyE ss nm=86):=hE
   clear hE
   go_enter Tryz.func10,Tryz.ntmps10
   go_wp2_with (first
    |(go_at_call 24;refine K1.mono ?_;rintro e w2 ⟨rfl,hc2⟩)
    |(go_at_call 25;refine (K2.out w2 hc2).mono ?_;rintro e w3 ⟨rfl,hc3⟩))
   go_ret
   exact⟨ret_int hE2.out.symm,hc2.trans hc3⟩
  |some j=>
   obtain rfl:((j:Nat):Int)=z:=HZ.out
   have hE2:Hid (readyE ss nm=0):=hE
   clear hE
   go_enter Tryz.func10,Tryz.ntmps10
   go_wp2_with (first
    |(go_at_call 24;refine K1.mono ?_;rintro e w2 ⟨rfl,hc2⟩)
    |(go_at_call 25;refine (K2.out w2 hc2).mono ?_;rintro e w3 ⟨rfl,hc3⟩))
   go_ret
   exact⟨ret_int hE2.out.symm,hc2.trans hc3⟩
 ·have hxb:(x != 0)=true:=by simpa using hx0
  have hE2:Hid (readyE ss nm=x):=by show _=_;rw[hE.out,if_pos hx0]
  clear hE hx0
  go_enter Tryz.func10,Tryz.ntmps10
  go_wp2_with (go_at_call 24;refine K1.mono ?_;rintro e w2 ⟨rfl,hc2⟩)
  go_ret
  exact⟨ret_int hE2.out.symm,hc2⟩
set_option maxHeartbeats 4000000 in
theorem sameE_c (es:List Ent) (n c c':Nat) (A A':Option Addr) (w:World) (h:EntsR w A es) (h':EntsR w A' es) (hn:es.length=n) (hl:n≤9223372036854775807) :
  Calls Tryz.prog 12 #[.slice A n c,.slice A' n c'] w fun e w'=>e=.returned (.bool true)∧Calm w w':=by
 have HE:=Lib.hid h
 have HE':=Lib.hid h'
 have HN:=Lib.hid hn
 clear h h' hn
 go_enter Tryz.func12,Tryz.ntmps12
 go_wp2_with fail
 go_loopw [13] (fun u wr=>∃k:Nat,k≤n∧u=.int .i64 k∧Hid (Calm w wr)) (fun u _=>n - (intOf u).toNat)
 case atStart=>exact⟨0,Nat.zero_le _,rfl,Calm.refl _⟩
 case round=>
  obtain⟨k,hk,rfl,HCr⟩:=hrel
  by_cases hlt:k < n
  ·obtain⟨b,o,z,rfl,hb,hz,c0,c1,c2,c3,c4,hu⟩:=(HE.out.calm HCr.out).get (k:=k) (by rw[HN.out];exact hlt)
   obtain⟨b',o',z',rfl,hb',hz',d0,d1,d2,d3,d4,hu'⟩:=(HE'.out.calm HCr.out).get (k:=k) (by rw[HN.out];exact hlt)
   have he:z'.e=z.e:=by
    rw[hz] at hz'
    exact (Option.some.inj hz').symm
   obtain⟨e0,he0⟩:∃e0,z.e=e0:=⟨_,rfl⟩
   rw[he0] at he c0 c1 c2 c3 c4
   rw[he] at d0 d1 d2 d3 d4
   have ul:=hu.l
   have ur:=hu.r
   have uh:=hu.h
   have ul':=hu'.l
   have ur':=hu'.r
   have uh':=hu'.h
   rw[he0] at ul ur uh
   rw[he] at ul' ur' uh'
   obtain⟨nl,hnl⟩:∃nl,e0.left.parts.length=nl:=⟨_,rfl⟩
   obtain⟨nr,hnr⟩:∃nr,e0.right.parts.length=nr:=⟨_,rfl⟩
   obtain⟨lr,hlr⟩:∃lr,e0.left.rest=lr:=⟨_,rfl⟩
   obtain⟨rr,hrr⟩:∃rr,e0.right.rest=rr:=⟨_,rfl⟩
   obtain⟨hn,hhn⟩:∃hn,e0.hs.length=hn:=⟨_,rfl⟩
   rw[hnl] at c0 d0
   rw[hlr] at c1 d1
   rw[hnr] at c2 d2
   rw[hrr] at c3 d3
   rw[hhn] at c4 d4
   have K1:=Lib.hid (fun q:CalmTo wr=>same_v e0.right nr z.rc z'.rc rr z.RA z'.RA q.w (ur.calm q.h).r.toU (ur'.calm q.h).r.toU hnr hrr)
   have K2:=Lib.hid (fun q:CalmTo wr=>rsameg_c e0.left e0.hs nl hn lr z.LA z.lc z.HA z.hc z'.LA z'.lc z'.HA z'.hc q.w (ul.calm q.h).r.toU (ul'.calm q.h).r.toU (uh.calm q.h).toV (uh'.calm q.h).toV hnl hhn hlr)
   have f0:=fun q:CalmTo wr=>q.cell c0 hb
   have f1:=fun q:CalmTo wr=>q.cell c1 hb
   have f2:=fun q:CalmTo wr=>q.cell c2 hb
   have f3:=fun q:CalmTo wr=>q.cell c3 hb
   have f4:=fun q:CalmTo wr=>q.cell c4 hb
   have g0:=fun q:CalmTo wr=>q.cell d0 hb'
   have g1:=fun q:CalmTo wr=>q.cell d1 hb'
   have g2:=fun q:CalmTo wr=>q.cell d2 hb'
   have g3:=fun q:CalmTo wr=>q.cell d3 hb'
   have g4:=fun q:CalmTo wr=>q.cell d4 hb'
   clear hz hz' he he0 hu hu' ul ur uh ul' ur' uh' hnl hnr hlr hrr hhn c0 c1 c2 c3 c4 d0 d1 d2 d3 d4
   go_wp2_with fail
   refine wp_region_calm (by kernel_rfl) (by kernel_rfl) ?_
   repeat (go_big_quiet_step (first
    |(go_at_call 28;with_reducible exact calmOf (K1.out _))
    |(go_at_call 29;with_reducible exact calmOf (K2.out _))))
   refine wpQuiet_nil ?_
   intro w7 hc7
   have HC7:Hid (Calm w w7):=HCr.out.trans hc7
   clear hc7 f0 f1 f2 f3 f4 g0 g1 g2 g3 g4
   go_wp2_with fail
   go_roundw
   case rel=>exact⟨k+1,by omega,by go_num,HC7⟩
   case measure=>simp[intOf];omega
  ·obtain rfl:k=n:=by omega
   go_wp2_with fail
   go_ret
   exact⟨rfl,HCr.out⟩
theorem smallS_lz {ss:List Strm} (h:smallS ss=true):StrmsZ ss:=fun s hs x hx=>by
 rw[smallS,Bool.and_eq_true,Bool.and_eq_true,decide_eq_true_eq,decide_eq_true_eq] at h
 have h1:=List.all_eq_true.1 h.1.1 s hs
 simp only[okS,Bool.and_eq_true] at h1
 have h6:=List.all_eq_true.1 (List.all_eq_true.1 h1.2 x hx)
 exact⟨fun p hp=>by have:=h6 p (List.mem_append_left _ hp);simpa using this,fun p hp=>by have:=h6 p (List.mem_append_right _ hp);simpa using this⟩
set_option maxRecDepth 100000 in
set_option maxHeartbeats 8000000 in
theorem strViews_c (ss:List Strm) (nm:Str) (A:Option Addr) (n c:Nat) (w:World) (hv:StrmsU w A ss) (hn:ss.length=n) (hnm:nm.length≤1048576) (hM:MaxL w) :
  Calls Tryz.prog 3 #[.slice A n c,.string (bs nm)] w fun e w'=>e=.returned (.bool true)∧Calm w w':=by
 obtain⟨y,hy⟩:∃y,smallS ss=y:=⟨_,rfl⟩
 have hsmall:=smallS_c ss y A n c w hv hn hy
 have hlen:=hv.len
 rw[hn] at hlen
 have KA:Hid (∀W,Calm w W→Calls Tryz.prog 8 #[] W fun e w'=>e=.returned (.bool true)∧Calm W w'):=fun W hW=>awakeS_c W (hM.calm hW)
 cases y with
 |false=>
  clear hv hn hM hy
  go_enter Tryz.func3,Tryz.ntmps3
  go_wp2_with (first
   |(go_at_call 7;refine hsmall.mono ?_;rintro e w2 ⟨rfl,hc2⟩)
   |(go_at_call 8;refine (KA.out w2 hc2).mono ?_;rintro e w3 ⟨rfl,hc3⟩))
  go_ret
  exact⟨rfl,hc2.trans hc3⟩
 |true=>
  obtain⟨hsm,hle⟩:=smallS_small hy
  rw[hn] at hle
  have hsz:=smallS_lz hy
  have KV:Hid (∀W,Calm w W→Calls Tryz.prog 9 #[.slice A n c,.string (bs nm)] W fun e w'=>EntOut (viewR ss nm).1 (viewR ss nm).2 W.heap.size e w'∧Calm W w'):=fun W hW=>View_c ss nm A n c W (hv.calm hW) hn hnm hsm hsz
  have KR:Hid (∀W,Calm w W→Calls Tryz.prog 10 #[.slice A n c,.string (bs nm)] W fun e w'=>e=.returned (.int .i64 (readyE ss nm))∧Calm W w'):=fun W hW=>ready8_c ss nm A n c W (hv.calm hW) hn (by omega) hsm
  by_cases hx:readyE ss nm=0
  ·obtain⟨i,hg,hni,hi,_⟩:=locE_ok8 hx
   have hfi:findI ss nm=some i:=by rw[←hni];exact hg.find hi
   have KW:Hid (∀W,Calm w W→Calls Tryz.prog 11 #[.slice A n c,.string (bs nm)] W fun e w'=>RvEnd (viewI ss i) e w'∧Calm W w'):=fun W hW=>rview_c ss nm A n c i W (hv.calm hW) hn hg hsm hsz hfi
   rw[hx] at KR
   rcases hvi:viewI ss i with _ | es
   ·rw[viewR_none hx hfi hvi] at KV
    rw[hvi] at KW
    have KV2:Hid (∀W,Calm w W→Calls Tryz.prog 9 #[.slice A n c,.string (bs nm)] W fun e w'=>(∃A2 c2,e=.returned (.tuple #[.slice A2 0 c2,.int .i64 80]))∧Calm W w'):=fun W hW=>(KV.out W hW).mono fun e w' ⟨⟨A2,c2,he,_⟩,hc⟩=>⟨⟨A2,c2,he⟩,hc⟩
    have KW2:Hid (∀W,Calm w W→Calls Tryz.prog 11 #[.slice A n c,.string (bs nm)] W fun e w'=>(∃v,e=.returned (.tuple #[v,.bool false]))∧Calm W w'):=fun W hW=>(KW.out W hW).mono fun e w' ⟨h,hc⟩=>⟨(by
     rcases h with⟨_,h⟩ | ⟨_,_,_,h,_⟩
     ·exact h
     ·cases h),hc⟩
    clear hx hfi hni hi hg hvi hv hn hM hy hsm hsz KV KW
    go_enter Tryz.func3,Tryz.ntmps3
    go_wp2_with (first
     |(go_at_call 7;refine hsmall.mono ?_;rintro e w2 ⟨rfl,hc2⟩)
     |(go_at_call 9;refine (KV2.out w2 hc2).mono ?_;rintro e w3 ⟨⟨A2,c2,rfl⟩,hc3⟩;have HC3:=Lib.hid (hc2.trans hc3))
     |(go_at_call 10;refine (KR.out w3 HC3.out).mono ?_;rintro e w4 ⟨rfl,hc4⟩;have HC4:=Lib.hid (HC3.out.trans hc4))
     |(go_at_call 11;refine (KW2.out w4 HC4.out).mono ?_;rintro e w5 ⟨⟨v5,rfl⟩,hc5⟩;have HC5:=Lib.hid (HC4.out.trans hc5))
     |(go_at_call 8;refine (KA.out w5 HC5.out).mono ?_;rintro e w6 ⟨rfl,hc6⟩))
    go_ret
    exact⟨rfl,HC5.out.trans hc6⟩
   ·rw[viewR_some hx hfi hvi] at KV
    rw[hvi] at KW
    obtain⟨l,hl⟩:∃l,es.length=l:=⟨_,rfl⟩
    have KV2:Hid (∀W,Calm w W→Calls Tryz.prog 9 #[.slice A n c,.string (bs nm)] W fun e w'=>(∃A2 c2,e=.returned (.tuple #[.slice A2 l c2,.int .i64 0])∧EntsR w' A2 es∧l≤9223372036854775807)∧Calm W w'):=fun W hW=>(KV.out W hW).mono fun e w' ⟨⟨A2,c2,he,g1,g2,zs,g3,g4,g5⟩,hc⟩=>⟨⟨A2,c2,by rw[he,hl],⟨zs,g3,g4,fun z hz=>(g5 z hz).u⟩,by rw[←hl];exact Nat.le_trans g1 g2⟩,hc⟩
    have KW2:Hid (∀W,Calm w W→Calls Tryz.prog 11 #[.slice A n c,.string (bs nm)] W fun e w'=>(∃A2 c2,e=.returned (.tuple #[.slice A2 l c2,.bool true])∧EntsR w' A2 es)∧Calm W w'):=fun W hW=>(KW.out W hW).mono fun e w' ⟨h,hc⟩=>⟨(by
     rcases h with⟨h,_⟩ | ⟨es',A2,c2,h,he,g1,_,_⟩
     ·cases h
     ·obtain rfl:=Option.some.inj h
      exact⟨A2,c2,by rw[he,hl],g1⟩),hc⟩
    have KS:Hid (∀W A1 c1 A2 c2,EntsR W A1 es→EntsR W A2 es→l≤9223372036854775807→Calls Tryz.prog 12 #[.slice A1 l c1,.slice A2 l c2] W fun e w'=>e=.returned (.bool true)∧Calm W w'):=fun W A1 c1 A2 c2 h1 h2 h3=>sameE_c es l c1 c2 A1 A2 W h1 h2 hl h3
    clear hx hfi hni hi hg hvi hv hn hM hy hsm hsz hl KV KW
    go_enter Tryz.func3,Tryz.ntmps3
    go_wp2_with (first
     |(go_at_call 7;refine hsmall.mono ?_;rintro e w2 ⟨rfl,hc2⟩)
     |(go_at_call 9;refine (KV2.out w2 hc2).mono ?_;rintro e w3 ⟨⟨A2,c2,rfl,he3,hl3⟩,hc3⟩;have HC3:=Lib.hid (hc2.trans hc3);have HE3:=Lib.hid he3;clear he3)
     |(go_at_call 10;refine (KR.out w3 HC3.out).mono ?_;rintro e w4 ⟨rfl,hc4⟩;have HC4:=Lib.hid (HC3.out.trans hc4);have HE4:=Lib.hid (HE3.out.calm hc4))
     |(go_at_call 11;refine (KW2.out w4 HC4.out).mono ?_;rintro e w5 ⟨⟨A5,c5,rfl,he5⟩,hc5⟩;have HC5:=Lib.hid (HC4.out.trans hc5);have HE5:=Lib.hid (And.intro (HE4.out.calm hc5) he5);clear he5)
     |(go_at_call 12;refine (KS.out w5 A2 c2 A5 c5 HE5.out.1 HE5.out.2 (by omega)).mono ?_;rintro e w6 ⟨rfl,hc6⟩;have HC6:=Lib.hid (HC5.out.trans hc6))
     |(go_at_call 8;refine (KA.out w6 HC6.out).mono ?_;rintro e w7 ⟨rfl,hc7⟩))
    go_ret
    exact⟨rfl,HC6.out.trans hc7⟩
  ·obtain⟨x,hxe⟩:∃x,readyE ss nm=x:=⟨_,rfl⟩
   rw[viewR_bad hx] at KV
   rw[hxe] at KR KV hx
   have hxb:(x != 0)=true:=by simpa using hx
   have hxx:(x == x)=true:=by simp
   have KV2:Hid (∀W,Calm w W→Calls Tryz.prog 9 #[.slice A n c,.string (bs nm)] W fun e w'=>(∃A2 c2,e=.returned (.tuple #[.slice A2 0 c2,.int .i64 x]))∧Calm W w'):=fun W hW=>(KV.out W hW).mono fun e w' ⟨⟨A2,c2,he,_⟩,hc⟩=>⟨⟨A2,c2,he⟩,hc⟩
   clear hx hxe hv hn hM hy hsm hsz KV
   go_enter Tryz.func3,Tryz.ntmps3
   go_wp2_with (first
    |(go_at_call 7;refine hsmall.mono ?_;rintro e w2 ⟨rfl,hc2⟩)
    |(go_at_call 9;refine (KV2.out w2 hc2).mono ?_;rintro e w3 ⟨⟨A2,c2,rfl⟩,hc3⟩;have HC3:=Lib.hid (hc2.trans hc3))
    |(go_at_call 10;refine (KR.out w3 HC3.out).mono ?_;rintro e w4 ⟨rfl,hc4⟩;have HC4:=Lib.hid (HC3.out.trans hc4))
    |(go_at_call 8;refine (KA.out w4 HC4.out).mono ?_;rintro e w5 ⟨rfl,hc5⟩))
   go_ret
   exact⟨rfl,HC4.out.trans hc5⟩
end Go.Proofs.YtdcdabbepnahnaaGreatDoor
namespace Go.Proofs.YtdcdabbepnahnaaGreatDoor
open Go.ChangeShapes Go.WideShapes Go.ChangeAt Go.RowKit
theorem fact_and {a b:Bool} (ha:a=true) (hb:b=true):(a && b)=true:=by rw[ha,hb];rfl
theorem fact1:(laidOutB Tryz.pinned.checked.prog)=true:=by kernel_rfl
theorem fact2:(mapsRowed Tryz.pinned.checked.prog)=true:=by kernel_rfl
theorem fact6:((Tryz.pinned.checked.prog.stops == []))=true:=by kernel_rfl
theorem fact8:((Tryz.pinned.checked.prog.stopKnobs == []))=true:=by kernel_rfl
theorem fact22:((Rows.streamViewMeansUptoRow.plainKeys == Tryz.pinned.checked.prog.plainKeys))=true:=by kernel_rfl
theorem fact24:(Tryz.pinned.checked.prog.stopsHeard)=true:=by kernel_rfl
theorem fact25:(Tryz.pinned.checked.prog.mayEnter)=true:=by kernel_rfl
theorem fact26:((Rows.streamViewMeansUptoRow.lifted == Tryz.pinned.checked.prog.liftsFinal))=true:=by kernel_rfl
theorem fact27:((Tryz.pinned.checked.prog.make == some Rows.streamViewMeansUptoRow.make))=true:=by kernel_rfl
theorem factLooks:false=Tryz.pinned.checked.prog.looks []:=by kernel_rfl
end Go.Proofs.YtdcdabbepnahnaaGreatDoor
namespace Go.Proofs.YtdcdabbepnahnaaGreatDoor.streamViewsUpto
open Go.ChangeShapes Go.WideShapes Go.ChangeAt Go.RowKit Sy
theorem own:ownKnob Tryz.prog.godebug=none:=by kernel_rfl
theorem laidOut:laidOutB Tryz.prog=true:=by kernel_rfl
def accZ:List Int:=[128,191,160,191,128,159,144,191,128,143,0,0,0,0,0,0,0,0,0,0,0,0,0,0,0,0,0,0,0,0,0,0]
theorem maxL {W:World} (h:W.ShapedOpen Tryz.prog):MaxL W:=by
 obtain⟨m,hm⟩:=Tryz.laysM146.s1_3 W h
 exact⟨(cell_lt hm).1,m,hm⟩
set_option maxRecDepth 100000 in
theorem contract (H:Type) (enc:TypeId × Value→H) (W:World) (base:Nat) (args:Array Value) (ds gs:List (DataW H)) (before:List MemPlace)
  (hval:∀(j:Nat) t v,Tryz.f3.params[j]?=some t→args[j]?=some v→Value.okWide Tryz.prog W .any base t v)
  (hW:DataW.Whole enc Tryz.prog Tryz.f3.params.toList Rows.streamViewsSpec.vars false W args.toList ds gs before)
  (hsz:(DataW.weightsEach Tryz.prog (Tryz.f3.params.toList++((OpenSpec.ofChange Rows.streamViewsSpec).bare.plain.varTypes Tryz.prog)) (ds++gs)).all (·≤reachBytes)=true) (hk:Rows.uptoSmall H (ds++gs)=true) (hL:laidMetH Tryz.prog Rows.streamViewsUptoRow.laid W) (hsh:W.ShapedOpen Tryz.prog) :
  Calls Tryz.prog 3 args W fun e W'=>∃v,e=.returned v∧Rows.streamViewsSpec.post enc Tryz.prog Tryz.f3 false true false false W args v W':=by
 have hW':=hW
 obtain⟨p,q,hA0,hV,rfl,hfz,hnd⟩:=hW
 have hA:DataW.TrodAll enc Tryz.prog W 0 (fun _=>true) true Tryz.f3.params.toList args.toList ds p:=hA0
 rw[Tryz.params3] at hA hval hsz
 obtain⟨v0,vs0,d0,ds0,p0,q0,hargs,rfl,rfl,h0,r0⟩:=trodAll_cons hA
 obtain⟨v1,vs1,d1,ds1,p1,q1,rfl,rfl,rfl,h1,r1⟩:=trodAll_cons r0
 obtain⟨rfl,rfl,rfl⟩:=trodAll_nil r1
 obtain rfl:args=#[v0,v1]:=by cases args;simp_all
 obtain⟨rfl,rfl⟩:=trodVars_none hV
 clear hA0
 simp only[List.append_nil] at hW'
 have hkb:Rows.uptoBulkAll [d0,d1]≤1048576:=of_decide_eq_true hk
 obtain⟨SA,ss,sc,rfl,t1,t2,t3⟩:=open_strmsL (hval 0 22 v0 rfl rfl) h0 (bulks.all_part hkb (show d0∈[d0,d1] by simp))
 obtain⟨s,rfl,hsd,hs1⟩:=open_strD (hval 1 9 v1 rfl rfl) h1
 have hsb:=bulks.all_part hkb (show d1∈[d0,d1] by simp)
 rw[hsd,bulks.string_eq] at hsb
 have hs1:s.length≤1048576:=by omega
 have hlt0:∀x∈p0,x.block < W.heap.size:=fun x hx=>by simpa using hW'.lt x (by simp[hx])
 have hlt1:∀x∈p1,x.block < W.heap.size:=fun x hx=>by simpa using hW'.lt x (by simp[hx])
 refine (strViews_c ss s SA ss.length sc W t1 rfl hs1 (maxL hsh)).mono fun e W' ⟨he,hg⟩=>?_
 subst he
 have h0':DataW.Trod enc Tryz.prog W' 0 (fun b=>decide (b < W.heap.size)) true 22 _ _ p0:=Below.trod laidOut (by kernel_rfl) (of_decide_eq_true (by kernel_rfl)) h0 hg hlt0
 have h1':DataW.Trod enc Tryz.prog W' 0 (fun b=>decide (b < W.heap.size)) true 9 _ _ p1:=Below.trod laidOut (by kernel_rfl) (of_decide_eq_true (by kernel_rfl)) h1 hg hlt1
 refine⟨_,rfl,_,_,_,[],_,[],hW',?_,trodAll_mk2 h0' h1',rfl,hg.frame _,fun h=>by cases h⟩
 exact trodAll_mk1 (shut_bool Tryz.underlying4 _)
def argsW:Array Value:=#[.slice none 0 0,.string ⟨#[]⟩]
noncomputable def laidWorld (os:Os):World:=
 { World.holding Tryz.prog os ⟨#[],#[],[]⟩ with heap:=(((World.holding Tryz.prog os ⟨#[],#[],[]⟩).heap.modify 2 (fun
   |.cells _ t frozen=>.cells (accZ.map fun z=>Value.int .u8 z).toArray t frozen
   |o=>o)).modify 1 (fun
   |.cells _ t frozen=>.cells (Go.Pinned.utf8FirstZ.map fun z:Nat=>Value.int .u8 (z:Int)).toArray t frozen
   |o=>o)) }
theorem laid_met (os:Os):laidMet Tryz.prog Rows.streamViewsUptoRow.laid ((laidWorld os).forCall (fun _ _=>0) ⟨#[],argsW,[]⟩).memory:=
 laidMet_of_run' 8 (by kernel_rfl) (by kernel_rfl)
theorem reads (os:Os) {H:Type} (enc:TypeId × Value→H):∃places,DataW.whole enc Tryz.prog ((laidWorld os).forCall (fun _ _=>0) ⟨#[],argsW,[]⟩).memory Tryz.f3.params.toList Rows.streamViewsSpec.vars false argsW.toList 8=some ([.nil,.lit (.string [])],[],places):=
 ⟨[],by kernel_rfl⟩
set_option maxRecDepth 100000 in
theorem lifted (os:Os) (started:os.Started) (H:Type) (enc:TypeId × Value→H) (F:Stop.Interp) :
  ReturnsInHanded {} Tryz.checked os 3 .any ((Rows.OpenSpec.upto Rows.streamViewsSpec).preRow enc Tryz.prog Tryz.f3 Rows.streamViewsUptoRow.domain false Rows.streamViewsUptoRow.laid) (((Rows.OpenSpec.upto Rows.streamViewsSpec).at F).post enc Tryz.prog Tryz.f3 false true false false):=by
 obtain⟨places,hx⟩:=reads os enc
 refine returnsInHanded_of_row (C:=Tryz.checked) (s:=Rows.OpenSpec.upto Rows.streamViewsSpec) own started (by kernel_rfl) Tryz.func3
  (witness_row_at (enc:=enc) (C:=Tryz.checked) false (laidWorld os) argsW rfl (by kernel_rfl) (by kernel_rfl) (by kernel_rfl)
   (OpenSpec.preRow_of_cond 8 hx (by kernel_rfl) (fun k hk=>by cases hk;kernel_rfl) (by kernel_rfl) (laid_met os))) ?_
 intro W base args ds gs before hval hW hcnd hcond hsz hL hsh _
 exact contract H enc W base args ds gs before hval hW hsz (hcond _ rfl) hL hsh
theorem own0:(Rows.streamViewsUptoRow.wf (OpenSpec.ofChange (Rows.OpenSpec.upto Rows.streamViewsSpec).bare))=true:=by kernel_rfl
theorem own1:(laidOutB Tryz.pinned.checked.prog)=true:=fact1
theorem own2:(mapsRowed Tryz.pinned.checked.prog)=true:=fact2
theorem own3:(Tryz.f3.params.all (Tryz.pinned.checked.prog.readableRec ·))=true:=by kernel_rfl
theorem own4:(namedTie Tryz.pinned.checked.prog Rows.streamViewsUptoRow.named (Rows.OpenSpec.upto Rows.streamViewsSpec).bare.vars)=true:=by kernel_rfl
theorem own5:((Rows.streamViewsUptoRow.stops == []))=true:=by kernel_rfl
theorem own6:((Tryz.pinned.checked.prog.stops == []))=true:=fact6
theorem own7:((Rows.streamViewsUptoRow.knobs == []))=true:=by kernel_rfl
theorem own8:((Tryz.pinned.checked.prog.stopKnobs == []))=true:=fact8
theorem own9:((Rows.streamViewsUptoRow.inPlace == Tryz.pinned.checked.prog.inPlace 3))=true:=by kernel_rfl
theorem own10:((Rows.streamViewsUptoRow.unfollowed == Tryz.pinned.checked.prog.unfollowed 3))=true:=by kernel_rfl
theorem own11:((Rows.streamViewsUptoRow.recurses == Tryz.pinned.checked.prog.recurses 3))=true:=by kernel_rfl
theorem own12:((Rows.streamViewsUptoRow.named == Tryz.pinned.checked.prog.varsNamed 3))=true:=by kernel_rfl
theorem own13:((Rows.streamViewsUptoRow.maps == (Tryz.f3.params.toList++(Rows.OpenSpec.upto Rows.streamViewsSpec).bare.plain.varTypes Tryz.pinned.checked.prog).any (Tryz.pinned.checked.prog.mapsRec ·)))=true:=by kernel_rfl
theorem own14:((Rows.streamViewsUptoRow.ifaces == (Tryz.f3.params.toList++(Rows.OpenSpec.upto Rows.streamViewsSpec).bare.plain.varTypes Tryz.pinned.checked.prog).any (Tryz.pinned.checked.prog.ifacesRec ·)))=true:=by kernel_rfl
theorem own15:((Rows.streamViewsUptoRow.mapsOut == Tryz.pinned.checked.prog.mapsAmong Tryz.f3.resultTypes.toList))=true:=by kernel_rfl
theorem own16:((Rows.streamViewsUptoRow.loops == (Tryz.f3.params.toList++(Rows.OpenSpec.upto Rows.streamViewsSpec).bare.plain.varTypes Tryz.pinned.checked.prog).any (Tryz.pinned.checked.prog.loopsFrom ·)))=true:=by kernel_rfl
theorem own17:((Rows.streamViewsUptoRow.wideKeys == (Tryz.f3.params.toList++(Rows.OpenSpec.upto Rows.streamViewsSpec).bare.plain.varTypes Tryz.pinned.checked.prog++Tryz.f3.resultTypes.toList).any (Tryz.pinned.checked.prog.wideKeysFrom ·)))=true:=by kernel_rfl
theorem own18:((Rows.OpenSpec.upto Rows.streamViewsSpec).bare.vars.all (Tryz.pinned.checked.prog.varReadable ·))=true:=by kernel_rfl
theorem own19:(Tryz.f3.resultTypes.all (fun t=>Tryz.pinned.checked.prog.readableRec t && decide (t < Tryz.pinned.checked.prog.types.size)))=true:=by kernel_rfl
theorem own20:((Rows.streamViewsUptoRow.ifacesOut == Tryz.f3.resultTypes.toList.any (Tryz.pinned.checked.prog.ifacesRec ·)))=true:=by kernel_rfl
theorem own21:((Rows.streamViewsUptoRow.loopsOut == Tryz.f3.resultTypes.toList.any (Tryz.pinned.checked.prog.loopsFrom ·)))=true:=by kernel_rfl
theorem own22:((Rows.streamViewsUptoRow.plainKeys == Tryz.pinned.checked.prog.plainKeys))=true:=fact22
theorem own23:(Rows.streamViewsUptoRow.shortTexts.isNone)=true:=by kernel_rfl
theorem own24:(Tryz.pinned.checked.prog.stopsHeard)=true:=fact24
theorem own25:(Tryz.pinned.checked.prog.mayEnter)=true:=fact25
theorem own26:((Rows.streamViewsUptoRow.lifted == Tryz.pinned.checked.prog.liftsFinal))=true:=fact26
theorem own27:((Tryz.pinned.checked.prog.make == some Rows.streamViewsUptoRow.make))=true:=fact27
theorem own28:((Rows.streamViewsUptoRow.kinds == (if Rows.streamViewsUptoRow.domain.isEmpty then [] else Tryz.f3.params.toList.map fun t=>match Tryz.pinned.checked.prog.underlying t with | some (.int k)=>some k | _=>none)))=true:=by kernel_rfl
theorem own29:((Rows.streamViewsUptoRow.pinned == Rows.streamViewsUptoRow.pinnedBy))=true:=by kernel_rfl
theorem own30:((Rows.streamViewsUptoRow.veiled == (Tryz.f3.params.toList++(Rows.OpenSpec.upto Rows.streamViewsSpec).bare.plain.varTypes Tryz.pinned.checked.prog++Tryz.f3.resultTypes.toList).any (Tryz.pinned.checked.prog.veiledRec ·)))=true:=by kernel_rfl
theorem own31:(Rows.streamViewsUptoRow.veiledFits Tryz.pinned.checked.prog Tryz.f3.params.toList (Tryz.f3.params.toList++(Rows.OpenSpec.upto Rows.streamViewsSpec).bare.plain.varTypes Tryz.pinned.checked.prog++Tryz.f3.resultTypes.toList))=true:=by kernel_rfl
theorem closed:joinedFacts Tryz.pinned.checked.prog 3 Tryz.f3 (Rows.OpenSpec.upto Rows.streamViewsSpec).bare Rows.streamViewsUptoRow=true:=(fact_and (fact_and (fact_and (fact_and (fact_and (fact_and (fact_and (fact_and (fact_and (fact_and (fact_and (fact_and (fact_and (fact_and (fact_and (fact_and (fact_and (fact_and (fact_and (fact_and (fact_and (fact_and (fact_and (fact_and (fact_and (fact_and (fact_and (fact_and (fact_and (fact_and (fact_and own0 own1) own2) own3) own4) own5) own6) own7) own8) own9) own10) own11) own12) own13) own14) own15) own16) own17) own18) own19) own20) own21) own22) own23) own24) own25) own26) own27) (by kernel_rfl)) own29) own30) own31)
theorem named:Tryz.pinned.checked.prog.funcNamed Rows.streamViewsUptoRow.func=some 3:=by kernel_rfl
theorem named2 : Tryz.prog.funcNamed "stockyard/stockyardlaw08.StreamViews" = some 3 := by kernel_rfl
theorem inst:(Tryz.f3).isInstance Tryz.pinned.checked.prog Rows.streamViewsUptoRow.origin Rows.streamViewsUptoRow.targs:=of_decide_eq_true (by kernel_rfl)
theorem wrap:(Tryz.f3).isWrapper Tryz.pinned.checked.prog Rows.streamViewsUptoRow.wrapper Rows.streamViewsUptoRow.mainSum:=by unfold Func.isWrapper;first | (rw[if_pos (by decide +kernel)];kernel_rfl) | (rw[if_neg (by decide +kernel)];exact⟨rfl,rfl⟩)
theorem goes:false=Rows.streamViewsUptoRow.goesBy Tryz.pinned.checked.prog:=by kernel_rfl
theorem said:Rows.StreamViewsUptoSaid:=
 OpenClaim.holds_of_cond 3 Tryz.f3 rfl rfl rfl rfl rfl rfl rfl ⟨rfl,rfl,rfl,rfl,rfl⟩ rfl rfl rfl rfl rfl named Tryz.func3 closed
  inst wrap
  (fun os started H enc _ F=>by rw[OpenClaim.pre_eq_preRow];exact lifted os started H enc F)
theorem plain (f : FuncId) (fn : Func) (hf : Tryz.pinned.checked.prog.funcNamed "stockyard/stockyardlaw08.StreamViews" = some f) (hfn : Tryz.pinned.checked.prog.funcs[f]? = some fn) :
  false=Tryz.pinned.checked.prog.looks []∧∀(j:Nat) t,fn.params[j]?=some t→Tryz.pinned.checked.prog.wantsStandIn t=false:=by
 obtain rfl : f = 3 := Option.some.inj ((show Tryz.prog.funcNamed "stockyard/stockyardlaw08.StreamViews" = some 3 from named2).symm.trans hf) |>.symm
 obtain rfl:fn=Tryz.f3:=(Option.some.inj (Tryz.func3.symm.trans hfn)).symm
 refine⟨factLooks,fun j t ht=>?_⟩
 rw[Tryz.params3] at ht
 have hm:=Array.mem_of_getElem? ht
 simp only[List.mem_toArray,List.mem_cons,List.not_mem_nil,or_false] at hm
 rcases hm with rfl | rfl
 ·exact (show Tryz.prog.wantsStandIn 22=false by kernel_rfl)
 ·exact (show Tryz.prog.wantsStandIn 9=false by kernel_rfl)
theorem card:Rows.StreamViewsUptoCardSaid:=
 Claim7.holds_tied_plain_at .later [] _ _ _ _ said (fun _ h=>by cases h) (by kernel_rfl) (fun _ h=>by cases h) streamViewsUpto_row_tie rfl ⟨rfl,rfl⟩ (by kernel_rfl) rfl plain goes
end Go.Proofs.YtdcdabbepnahnaaGreatDoor.streamViewsUpto
