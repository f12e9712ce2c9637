/- Walk: rule.NarrowLeft. -/
import Derived.Deep.QuietTactic
import Derived.BigQuiet
import Derived.Test.YtcofdlipapnohaaGreatDoorZBindW
import Derived.Test.YtcofdlipapnohaaGreatDoorZRuleW
import Derived.Test.YtcofdlipapnohaaGreatDoorZRSameG
import Derived.Test.YtcofdlipapnohaaGreatDoorZMeetP
set_option linter.unusedVariables false
set_option linter.unusedSimpArgs false
namespace Go.Proofs.YtcofdlipapnohaaGreatDoor
open Go Go.RowKit Sy
theorem fillR_each:∀(xs cs:List Str) {L M:Nat},(∀x∈xs,x.length≤L)→(∀c∈cs,c.length≤M)→∀y∈fillR xs cs,y.length≤L+M
 |[],_,_,_,_,_,y,h=>by cases h
 |x :: xs,cs,L,M,hx,hc,y,h=>by
  have h1:=hx x (by simp)
  unfold fillR at h
  split at h
  ·rcases List.mem_cons.1 h with rfl | h
   ·have h2:(cs.headD []).length≤M:=by
     cases cs with
     |nil=>simp
     |cons c cs=>exact hc c (by simp)
    rw[List.length_append,List.length_tail]
    omega
   ·exact fillR_each xs cs.tail (fun z hz=>hx z (List.mem_cons_of_mem _ hz)) (fun c hcm=>hc c (List.mem_of_mem_tail hcm)) y h
  ·rcases List.mem_cons.1 h with rfl | h
   ·omega
   ·exact fillR_each xs cs (fun z hz=>hx z (List.mem_cons_of_mem _ hz)) hc y h
theorem capsR_each:∀(xs ls:List Str) {M:Nat},(∀l∈ls,l.length≤M)→∀c∈capsR xs ls,c.length≤M
 |[],_,_,_,c,h=>by simp[capsR] at h
 |x :: xs,[],_,_,c,h=>by simp[capsR] at h
 |x :: xs,l :: ls,M,hl,c,h=>by
  have h1:=hl l (by simp)
  unfold capsR at h
  split at h
  ·rcases List.mem_cons.1 h with rfl | h
   ·unfold cap1
    rw[List.length_take]
    omega
   ·exact capsR_each xs ls (fun z hz=>hl z (List.mem_cons_of_mem _ hz)) c h
  ·exact capsR_each xs ls (fun z hz=>hl z (List.mem_cons_of_mem _ hz)) c h
theorem carry_each {p q m:Pat} (h:Sy.Inner p q m) {L M:Nat} (hq:∀x∈q.parts,x.length≤L) (hm:∀x∈m.parts,x.length≤M):∀x∈(carryP p q m).parts,x.length≤L+M:=fun x hx=>by
 rw[h.parts] at hx
 rcases List.mem_append.1 hx with hx | hx
 ·exact fillR_each _ _ hq (capsR_each _ _ hm) x hx
 ·split at hx
  ·have:=hm x (List.mem_of_mem_drop hx)
   omega
  ·cases hx
theorem info_strS:(Tryz.prog.info? 9).map (fun i=>(i.zero,i.size,i.bytes))=some (some (.string ByteArray.empty),1,16):=by kernel_rfl
theorem StrsR.readS {w:World} {A:Option Addr} {ls:List Str} (h:StrsR w A ls):ReadX encS 1 w A ls:=fun hne=>by
 obtain⟨b,o,hA,hb,hk⟩:=h.at_ (List.length_pos_iff.2 hne)
 refine⟨b,o,hA,hb,fun k x hx i u hu=>?_⟩
 have h0:i=0:=by
  have:=(List.getElem?_eq_some_iff.1 hu).1
  simp[encS] at this
  omega
 subst h0
 obtain rfl:Value.string (bs x)=u:=by simpa[encS] using hu
 have e:o+k * 1+0=o+k:=by omega
 rw[e]
 exact hk k x hx
theorem BindsR.tail {w:World} {b o:Nat} {A:Option Addr} {x:Pat} {xs:List Pat} (h:BindsR w (some ⟨b,o,none⟩) (x :: xs)) (hA:xs≠[]→A=some ⟨b,o+2,none⟩):BindsR w A xs:=by
 obtain⟨ys,h1,h2,h3⟩:=h
 cases ys with
 |nil=>cases h1
 |cons y ys=>
  simp only[List.map_cons,List.cons.injEq] at h1
  refine⟨ys,h1.2,fun hne=>?_,fun z hz=>h3 z (List.mem_cons_of_mem _ hz)⟩
  obtain⟨b',o',e,hb,hk⟩:=h2 (by simp)
  obtain⟨rfl,rfl⟩:b=b'∧o=o':=by simpa using e
  refine⟨b,o+2,hA (fun e=>hne (by rw[←h1.2] at e;simpa using e)),hb,fun k z hz i u hu=>?_⟩
  have:=hk (k+1) z (by simpa using hz) i u hu
  have e2:o+(k+1) * 2+i=o+2+k * 2+i:=by omega
  rw[e2] at this
  exact this
structure BoxZ (w1:World) (B:Nat) (A:Option Addr) (n c:Nat) (re:Bool):Prop where
 size:B+2≤w1.heap.size
 x0:w1.cell? ⟨B,0,none⟩=some (.slice A n c)
 x1:w1.cell? ⟨B,1,none⟩=some (.bool re)
 z0:w1.cell? ⟨B+1,0,none⟩=some (.slice none 0 0)
 z1:w1.cell? ⟨B+1,1,none⟩=some (.bool false)
 fz:∀o,w1.frozen? ⟨B+1,o,none⟩=false
theorem BoxZ.calm {w1 w2:World} {B:Nat} {A:Option Addr} {n c:Nat} {re:Bool} (h:BoxZ w1 B A n c re) (hc:Calm w1 w2):BoxZ w2 B A n c re:=by
 have h0:B < w1.heap.size:=by have:=h.size;omega
 have h1:B+1 < w1.heap.size:=by have:=h.size;omega
 exact⟨Nat.le_trans h.size hc.size,hc.at_ h.x0 h0,hc.at_ h.x1 h0,hc.at_ h.z0 h1,hc.at_ h.z1 h1,fun o=>(hc.frozen (p:=⟨B+1,o,none⟩) h1).trans (h.fz o)⟩
def SubEnd (r:Pat) (B:Nat) (e:Ending) (w':World):Prop:=
 (12 < r.parts.length∧e=.returned (.tuple #[.agg #[.slice none 0 0,.bool false],.int .i64 31])) ∨
 (r.parts.length≤12∧∃A c,e=.returned (.tuple #[.agg #[.slice A r.parts.length c,.bool r.rest],.int .i64 0])∧NewS w' B A c r.parts)
structure ResP (w:World) (P:Nat) (A:Option Addr) (n c:Nat) (re:Bool):Prop where
 kind:∃cs,w.heap[P]?=some (.cells cs 65 (0,0))
 p0:w.cell? ⟨P,0,none⟩=some (.slice A n c)
 p1:w.cell? ⟨P,1,none⟩=some (.bool re)
theorem ResP.lt {w:World} {P:Nat} {A:Option Addr} {n c:Nat} {re:Bool} (h:ResP w P A n c re):P < w.heap.size:=by
 obtain⟨cs,hh⟩:=h.kind
 exact heap_lt hh
theorem ResP.f {w:World} {P:Nat} {A:Option Addr} {n c:Nat} {re:Bool} (h:ResP w P A n c re) (o:Nat):w.frozen? ⟨P,o,none⟩=false:=by
 obtain⟨cs,hh⟩:=h.kind
 exact frozen_of_row w P o cs _ hh
theorem ResP.block {w w':World} {P:Nat} {A:Option Addr} {n c:Nat} {re:Bool} (h:ResP w P A n c re) (hb:w'.heap[P]?=w.heap[P]?):ResP w' P A n c re:=by
 obtain⟨cs,hh⟩:=h.kind
 exact⟨⟨cs,hb.trans hh⟩,(World.cell?_of_block (a:=⟨P,0,none⟩) hb).trans h.p0,(World.cell?_of_block (a:=⟨P,1,none⟩) hb).trans h.p1⟩
theorem ResP.calm {w w':World} {P:Nat} {A:Option Addr} {n c:Nat} {re:Bool} (h:ResP w P A n c re) (hc:Calm w w'):ResP w' P A n c re:=h.block (hc.block _ h.lt)
theorem ResP.new (w:World) (A:Option Addr) (n c:Nat) (re:Bool):ResP (w.alloc (.cells #[.slice A n c,.bool re] 65)) w.heap.size A n c re:=
 ⟨⟨_,heap_alloc_new w _⟩,by simp[go_sem],by simp[go_sem]⟩
theorem ResP.set {w:World} {P T k:Nat} {A:Option Addr} {n c:Nat} {re:Bool} (h:ResP w P A n c re) (hne:P≠T) (u:Value):ResP (w.setCell ⟨T,k,none⟩ u) P A n c re:=
 h.block (Deep.blk_setCell_other _ _ _ _ hne)
theorem ResP.put {w:World} {P:Nat} {A A2:Option Addr} {n c n2 c2:Nat} {re:Bool} (h:ResP w P A n c re):ResP (w.setCell ⟨P,0,none⟩ (.slice A2 n2 c2)) P A2 n2 c2 re:=by
 obtain⟨cs,hh⟩:=h.kind
 exact⟨⟨cs.setIfInBounds 0 (.slice A2 n2 c2),by simp[World.setCell,Array.getElem?_modify,hh]⟩,World.cell?_setCell_same' _ _ _ (by rw[h.p0];rfl),(World.cell?_setCell_other _ _ _ _ (by simp)).trans h.p1⟩
set_option maxRecDepth 100000 in
set_option maxHeartbeats 16000000 in
theorem subst_c (p q m:Pat) (n nb c lc:Nat) (re:Bool) (A LA:Option Addr) (w:World) (h:Sy.Inner p q m) (hq:PatA w A c q) (hn:q.parts.length=n) (hre:q.rest=re) (hb:BindsR w LA (bindP p m)) (hnb:(bindP p m).length=nb) (hlc:nb≤lc) (hlc2:lc≤9223372036854775807) (hml:∀x∈m.parts,x.length≤16384) :
  Calls Tryz.prog 261 #[.agg #[.slice A n c,.bool re],.slice LA nb lc] w fun e w'=>SubEnd (carryP p q m) w.heap.size e w'∧Calm w w':=by
 have hnl:=hq.r.len
 rw[hn] at hnl
 have hn12:n≤12:=by have:=(patErr_form h.tw.rp).2.2;omega
 have hn0:0 < n:=by have:=(patErr_form h.tw.rp).1;omega
 obtain⟨s,hs⟩:∃s,starN q=s:=⟨_,rfl⟩
 have hsn:s≤n:=by rw[←hs,←hn];unfold starN;exact List.length_filter_le _ _
 have hnbs:=bindP_len h
 rw[hnb,hs,hre] at hnbs
 obtain⟨w1,hw1⟩:∃w1,w1=(w.alloc (.cells #[.slice A n c,.bool re] 65)).alloc (.cells #[.slice none 0 0,.bool false] 65):=⟨_,rfl⟩
 have hc1:Calm w w1:=by rw[hw1];exact ((Calm.refl w).alloc _).alloc _
 have hbox:BoxZ w1 w.heap.size A n c re:=by
  rw[hw1]
  exact⟨by simp,by simp[go_sem],by simp[go_sem],by simp[go_sem],by simp[go_sem],fun o=>by simp[go_sem]⟩
 have KK:Hid (∀W,Calm w1 W→Calls Tryz.prog 215 #[.agg #[.slice A n c,.bool re]] W fun e w'=>e=.returned (.tuple #[.int .i64 (s:Nat),.bool re,.int .i64 0])∧Calm W w'):=fun W hW=>by
  have:=kinds_c q A c W (hq.calm (hc1.trans hW)).r.toG hq.room hq.cap h.tw.rp
  rw[hn,hre,hs] at this
  exact this
 have KC:Hid (∀W,Calm w1 W→Calls Tryz.prog 118 #[.slice A n c] W fun e w'=>(∃g c2,e=.returned (.slice (some ⟨g,0,none⟩) n c2)∧OwnX encS 1 9 W w' (.slice (some ⟨g,0,none⟩) n c2) q.parts∧n≤c2∧c2≤9223372036854775807)∧Calm W w'):=fun W hW=>clone_own q.parts A n c W (hq.calm (hc1.trans hW)).r.toU hn hn0
 have HW:=Lib.hid hw1
 have HC:=Lib.hid hc1
 have HB:=Lib.hid hbox
 have HN:=Lib.hid (And.intro hn (And.intro hre (And.intro hs hnb)))
 have HQ:=Lib.hid (hq.calm hc1)
 have HBi:=Lib.hid (hb.calm hc1)
 have HI:=Lib.hid h
 have HMl:=Lib.hid hml
 have hsz:w.heap.size+2≤w1.heap.size:=hbox.size
 clear hw1 hc1 hbox hn hre hs hnb hq hb h hml
 go_enter Tryz.func261,Tryz.ntmps261
 have key:(re=true∧nb=s+1∧((nb:Int) != (s:Int)+1)=false)∨(re=false∧nb=s∧((nb:Int) != (s:Int))=false):=by
  cases re with
  |true=>
   have e:nb=s+1:=by simpa using hnbs
   exact .inl ⟨rfl,e,by rw[bne_eq_false_iff_eq];omega⟩
  |false=>
   have e:nb=s:=by simpa using hnbs
   exact .inr ⟨rfl,e,by rw[bne_eq_false_iff_eq];omega⟩
 clear hnbs
 rcases key with⟨rfl,hnbe,hin1⟩ | ⟨rfl,hnbe,hin1⟩
 all_goals
  have HNb:=Lib.hid hnbe
  clear hnbe
  go_wp2_with (go_at_call 215;rw[←HW.out];refine (KK.out w1 (Calm.refl _)).mono ?_;rintro e w2 ⟨rfl,hc2⟩)
  have HC2:=Lib.hid hc2
  clear hc2 KK hin1
  go_loopw [45] (fun u wr=>∃k:Nat,k≤nb∧u=.int .i64 k∧Hid (Calm w2 wr)) (fun u _=>nb - (intOf u).toNat)
  case atStart=>exact⟨0,Nat.zero_le _,rfl,Calm.refl _⟩
  case round=>
   obtain⟨k,hk,rfl,HCr⟩:=hrel
   have HCq:Hid (Calm w1 wr):=HC2.out.trans HCr.out
   by_cases hlt:k < nb
   ·obtain⟨b0,o0,y,rfl,hbz,hby,d0,d1,hpy⟩:=(HBi.out.calm HCq.out).get (k:=k) (by rw[HN.out.2.2.2];exact hlt)
    obtain⟨g1,g2,g3⟩:=bindP_ok HI.out hby
    rw[HN.out.2.2.1] at g1
    obtain⟨yn,hyn⟩:∃yn,y.p.parts.length=yn:=⟨_,rfl⟩
    obtain⟨yr,hyr⟩:∃yr,y.p.rest=yr:=⟨_,rfl⟩
    obtain⟨la,hla⟩:∃la,decide (k=s)=la:=⟨_,rfl⟩
    have hbk:((k:Int) == (s:Int))=la:=by
     rw[←hla,Bool.eq_iff_iff,beq_iff_eq,decide_eq_true_eq]
     omega
    have KB:Hid (∀W,Calm wr W→Calls Tryz.prog 276 #[.agg #[.slice y.A yn y.c,.bool yr],.bool la] W fun e w'=>e=.returned (.bool true)∧Calm W w'):=fun W hW=>isBind_c y.p la yn y.c yr y.A W (hpy.calm hW) hyn hyr (fun e=>by
     rw[←hyn,←hyr]
     refine g1 ?_
     rw[←hla] at e
     have:¬k=s:=by simpa using e
     have:=HNb.out
     omega) (fun e=>by rw[←hyr];exact g2 (by rw[hyn];exact e)) g3
    rw[hyn] at d0
    rw[hyr] at d1
    clear hby hpy g1 g2 g3 hyn hyr hla
    go_wp2_with (go_at_call 276;refine (KB.out _ ((Calm.refl _).alloc _)).mono ?_;rintro e w3 ⟨rfl,hc3⟩)
    go_roundw
    case rel=>exact⟨k+1,by omega,by go_num,HCr.out.trans (((Calm.refl _).alloc _).trans hc3)⟩
    case measure=>simp[intOf];omega
   ·obtain rfl:k=nb:=by omega
    have hb4:=HB.out.calm HCq.out
    have x0:=hb4.x0
    clear hb4
    go_wp2_with (go_at_call 118;refine (KC.out _ HCq.out).mono ?_;rintro e w5 ⟨⟨T,tc,rfl,hown5,htc,htc2⟩,hc5⟩)
    obtain⟨P,hP⟩:∃P,w5.heap.size=P:=⟨_,rfl⟩
    have hres:=ResP.new w5 (some ⟨T,0,none⟩) n tc false
    rw[hP] at hres
    have hTP:T < P:=by
     obtain⟨x,hx⟩:∃x,q.parts[0]?=some x:=⟨_,List.getElem?_eq_getElem (by rw[HN.out.1];exact hn0)⟩
     have:=(hown5.cellS hx).2.2.1
     omega
    obtain⟨w6,hw6⟩:∃w6,w6=w5.alloc (.cells #[.slice (some ⟨T,0,none⟩) n tc,.bool false] 65):=⟨_,rfl⟩
    rw[←hw6] at hres ⊢
    have HO6:Hid (OwnX encS 1 9 wr w6 (.slice (some ⟨T,0,none⟩) n tc) q.parts):=by
     show OwnX _ _ _ _ _ _ _
     rw[hw6]
     exact hown5.to ((Calm.refl _).alloc _)
    have HRes:=Lib.hid hres
    have HB4:=Lib.hid (HBi.out.calm HCq.out)
    obtain⟨cs,hcs⟩:∃cs,capsR p.parts m.parts=cs:=⟨_,rfl⟩
    have HCs:=Lib.hid hcs
    obtain⟨w4,rfl⟩:∃w4,w4=wr:=⟨_,rfl⟩
    have HCr4:Hid (Calm w2 w4):=HCr
    have HP:=Lib.hid hP
    rw[hP]
    clear hw6 hres hown5 hc5 hP hcs KC
    go_loopw [1,65] (fun l u wr=>∃(k2 r c2:Nat) (LA2:Option Addr),k2≤n∧u=.int .i64 k2∧l=.slice LA2 r c2∧Hid (r+starTo q k2=k)∧r≤c2∧c2≤9223372036854775807∧Hid (BindsR w4 LA2 ((bindP p m).drop (starTo q k2)))∧Hid (OwnX encS 1 9 w4 wr (.slice (some ⟨T,0,none⟩) n tc) (fillTo q cs k2))∧Hid (ResP wr P (some ⟨T,0,none⟩) n tc false)) (fun _ u _=>n - (intOf u).toNat)
    case atStart=>exact⟨0,k,lc,LA,Nat.zero_le _,rfl,rfl,rfl,hlc,hlc2,HB4.out,by rw[fillTo_zero];exact HO6.out,HRes.out⟩
    case round=>
     obtain⟨k2,r,c2,LA2,hk2,rfl,rfl,HR,hrc,hc2m,HBd,HO,HRs⟩:=hrel
     obtain⟨wq,rfl⟩:∃wq,wq=wr:=⟨_,rfl⟩
     by_cases hlt2:k2 < n
     ·have hx:(fillTo q cs k2)[k2]?=some (pAt q k2):=by
       rw[fillTo_get (by rw[HN.out.1];exact hlt2),if_neg (fun h=>by omega)]
      obtain⟨x,hxe⟩:∃x,pAt q k2=x:=⟨_,rfl⟩
      rw[hxe] at hx
      obtain⟨hcx,hfr,hTl,hTb⟩:=HO.out.cellS hx
      have hxl:x.length≤16384:=by
       rw[←hxe]
       exact HQ.out.r.each _ (List.mem_of_getElem? (pAt_get (by rw[HN.out.1];exact hlt2)))
      have hxs:=bs_size x
      obtain⟨st,hst⟩:∃st,isStar x=st:=⟨_,rfl⟩
      have KS:Hid (∀W,Calls Tryz.prog 220 #[.string (bs x)] W fun e w'=>e=.returned (.bool st)∧W=w'):=fun W=>isStar_v x st W hst
      have HSt:Hid (isStar (pAt q k2)=st):=by show _=_;rw[hxe];exact hst
      have HXe:=Lib.hid hxe
      have hk2q:Hid (k2 < q.parts.length):=by show k2 < _;rw[HN.out.1];exact hlt2
      clear hx hxe hst
      cases st with
      |false=>
       go_wp2_with (go_at_call 220;refine (KS.out _).mono ?_;rintro e w7 ⟨rfl,rfl⟩)
       go_roundw
       case rel=>exact⟨k2+1,r,c2,LA2,by omega,by go_num,rfl,by show _=_;rw[starTo_lit HSt.out hk2q.out];exact HR.out,hrc,hc2m,by show BindsR _ _ _;rw[starTo_lit HSt.out hk2q.out];exact HBd.out,by show OwnX _ _ _ _ _ _ _;rw[fillTo_lit HSt.out];exact HO.out,HRs.out⟩
       case measure=>simp[intOf];omega
      |true=>
       have hts:=starTo_lt HSt.out hk2q.out
       rw[HN.out.2.2.1] at hts
       have hr1:1≤r:=by have:=HR.out;have:=HNb.out;omega
       have hcap:=bindP_cap HI.out (t:=starTo q k2) (by rw[HN.out.2.2.1];exact hts)
       have hdrop:(bindP p m).drop (starTo q k2)=⟨[cs.getD (starTo q k2) []],false⟩ :: (bindP p m).drop (starTo q k2+1):=by
        rw[HCs.out] at hcap
        obtain⟨hlt3,he3⟩:=List.getElem?_eq_some_iff.1 hcap
        rw[List.drop_eq_getElem_cons hlt3,he3]
       have hbd:=HBd.out
       rw[hdrop] at hbd
       obtain⟨cap,hcapv⟩:∃cap,cs.getD (starTo q k2) []=cap:=⟨_,rfl⟩
       rw[hcapv] at hbd
       have HBd1:=Lib.hid hbd
       obtain⟨b0,o0,y,rfl,hbz,hby,d0,d1,hpy⟩:=hbd.get (k:=0) (by simp)
       have hyp:y.p=⟨[cap],false⟩:=by simpa using hby.symm
       have hyr:=hpy.r
       rw[hyp] at hyr d0 d1
       rw[Nat.zero_mul,Nat.add_zero] at d0
       obtain⟨yb,yo,hyA,hyb,hyc⟩:=hyr.at_ (by simp)
       have e0:=hyc 0 cap rfl
       rw[Nat.add_zero] at e0
       obtain⟨AY,cy,py⟩:=y
       simp only at hyA d0 d1
       subst hyA
       have hC4:=HO.out.calm
       have d0:=Calm.at_ hC4 d0 hbz
       have e0:=Calm.at_ hC4 e0 hyb
       have hcl:cap.length≤16384:=hyr.each cap (by simp)
       have hx1:1≤x.length:=by
        have:=HSt.out
        rw[HXe.out] at this
        cases x with
        |nil=>cases this
        |cons a rr=>simp
       obtain⟨xt,hxt⟩:∃xt,x.tail=xt:=⟨_,rfl⟩
       have hex:(bs x).extract 1 x.length=bs xt:=by rw[←hxt];exact bs_drop1 x _ rfl
       obtain⟨z,hz⟩:∃z,cap++xt=z:=⟨_,rfl⟩
       have hcat:bs cap++bs xt=bs z:=by rw[←hz,bs_append]
       have hcaps:=bs_size cap
       have htl:xt.length≤16384:=by rw[←hxt,List.length_tail];omega
       have htls:=bs_size xt
       have hs1:¬9223372036854775807 < cap.length+xt.length:=by omega
       have hs2:cap.length+xt.length≤9223372036854775807:=by omega
       have hs3:¬(9223372036854775807:Int) < ((cap.length:Int)+(xt.length:Int)):=by omega
       have hbn0:0 < r:=by omega
       have HZ:Hid (cs.getD (starTo q k2) []++(pAt q k2).tail=z):=by show _=_;rw[hcapv,HXe.out,hxt];exact hz
       have q0:=HRs.out.p0
       clear hcap hdrop hbd hby hpy hyp hyr hyc hz hC4 d1 hcapv hxt
       have hb1:(1:Int)≤(x.length:Int):=by omega
       have hb2:(0:Int) < (r:Int):=by omega
       have hb3:(1:Int)≤(r:Int):=by omega
       have hb4:(r:Int)≤(c2:Int):=by omega
       have hb5:(0:Int)≤(k2:Int):=by omega
       have hb6:(k2:Int) < (n:Int):=by omega
       have hb0T:b0≠T:=by omega
       have hybT:yb≠T:=by omega
       have hPT:P≠T:=by omega
       have HSk:Hid (∀W:World,W.heap[P]?=wq.heap[P]?∧W.heap[b0]?=wq.heap[b0]?∧W.heap[yb]?=wq.heap[yb]?→W.cell? ⟨P,0,none⟩=some (.slice (some ⟨T,0,none⟩) n tc)∧W.cell? ⟨b0,o0,none⟩=some (.slice (some ⟨yb,yo,none⟩) 1 cy)∧W.cell? ⟨yb,yo,none⟩=some (.string (bs cap))):=fun W hW=>
        ⟨(World.cell?_of_block (a:=⟨P,0,none⟩) hW.1).trans q0,(World.cell?_of_block (a:=⟨b0,o0,none⟩) hW.2.1).trans d0,(World.cell?_of_block (a:=⟨yb,yo,none⟩) hW.2.2).trans e0⟩
       go_wp2_with (go_at_call 220;refine (KS.out _).mono ?_;rintro e w7 ⟨rfl,rfl⟩)
       go_region_held3 (fun W=>W.cell? ⟨P,0,none⟩=some (.slice (some ⟨T,0,none⟩) n tc)∧W.cell? ⟨b0,o0,none⟩=some (.slice (some ⟨yb,yo,none⟩) 1 cy)∧W.cell? ⟨yb,yo,none⟩=some (.string (bs cap)))
        (first
         |exact HSk.out _ ⟨rfl,rfl,rfl⟩
         |exact HSk.out _ ⟨Deep.blk_setCell_other _ _ _ _ hPT,Deep.blk_setCell_other _ _ _ _ hb0T,Deep.blk_setCell_other _ _ _ _ hybT⟩
         |go_keep)
        (fail)
       obtain⟨A3,hA3⟩:∃A3,(if c2=1 then some (⟨b0,o0,none⟩:Addr) else some ⟨b0,o0+2,none⟩)=A3:=⟨_,rfl⟩
       rw[hA3]
       have HBd2:Hid (BindsR w4 A3 ((bindP p m).drop (starTo q k2+1))):=by
        show BindsR _ _ _
        refine HBd1.out.tail (fun hne=>?_)
        have hl0:((bindP p m).drop (starTo q k2+1)).length≠0:=fun e=>hne (List.length_eq_zero_iff.1 e)
        rw[List.length_drop,HN.out.2.2.2] at hl0
        have:=HR.out
        rw[←hA3,if_neg (by omega)]
       obtain⟨w9,hw9⟩:∃w9,w9=(wq.setCell ⟨T,k2,none⟩ (.string (bs z))).drew:=⟨_,rfl⟩
       rw[←hw9]
       have HO9:Hid (OwnX encS 1 9 w4 w9 (.slice (some ⟨T,0,none⟩) n tc) (fillTo q cs (k2+1))):=by
        show OwnX _ _ _ _ _ _ _
        rw[hw9,fillTo_star HSt.out hk2q.out,HZ.out]
        exact (HO.out.putS (by rw[fillTo_len,HN.out.1]) z).to (Below.drew (Calm.refl _))
       have HR9:Hid (ResP w9 P (some ⟨T,0,none⟩) n tc false):=by
        show ResP _ _ _ _ _ _
        rw[hw9]
        exact (HRs.out.set hPT _).calm (Below.drew (Calm.refl _))
       clear hw9 hA3 hcx hfr q0 d0 e0
       go_wp2_with fail
       go_roundw
       case rel=>exact⟨k2+1,r - 1,c2 - 1,A3,by omega,by go_num,rfl,by show _=_;rw[starTo_star HSt.out hk2q.out];have:=HR.out;omega,by omega,by omega,by show BindsR _ _ _;rw[starTo_star HSt.out hk2q.out];exact HBd2.out,HO9.out,HR9.out⟩
       case measure=>simp[intOf];omega
     ·obtain rfl:k2=n:=by omega
      have hse:Hid (starTo q k2=s):=by
       show _=_
       rw[←HN.out.1,starTo_end]
       exact HN.out.2.2.1
      have hfe:fillTo q cs k2=fillR q.parts (capsR p.parts m.parts):=by
       rw[←HN.out.1,fillTo_end,HCs.out]
      have HFe:=Lib.hid hfe
      have HFl:Hid ((fillTo q cs k2).length=k2):=by
       show _=_
       rw[fillTo_len,HN.out.1]
      have HEach:Hid (∀x∈(carryP p q m).parts,x.length≤32768):=carry_each HI.out (L:=16384) (M:=16384) HQ.out.r.each HMl.out
      have HCw:Hid (Calm w1 wq):=(HC2.out.trans HCr4.out).trans HO.out.calm
      have p0:=HRs.out.p0
      have p1:=HRs.out.p1
      have hb9:=HB.out.calm HCw.out
      have z0:=hb9.z0
      have z1:=hb9.z1
      have f0:=hb9.fz 0
      have f1:=hb9.fz 1
      clear hb9 hfe
      have HNS:Hid (NewS wq w4.heap.size (some ⟨T,0,none⟩) tc (fillTo q cs k2) ):=by
       refine HO.out.strsU (by rw[HFl.out];omega) (fun x hx=>?_)
       have h2:=HEach.out x (by rw[HI.out.parts,←HFe.out];exact List.mem_append_left _ hx)
       omega
      have hw4:w.heap.size+2≤w4.heap.size:=by have:=HC2.out.size;have:=HCr4.out.size;omega
      have hc8:∀(W:World),Calm w1 W→∀u0 u1,Hid (Calm w ((W.setCell ⟨w.heap.size+1,0,none⟩ u0).setCell ⟨w.heap.size+1,1,none⟩ u1)):=fun W hW u0 u1=>
       Below.setCell (Below.setCell (HC.out.trans hW) (by show w.heap.size≤w.heap.size+1;omega) _) (by show w.heap.size≤w.heap.size+1;omega) _
      have hs8:∀(W:World) (A9:Option Addr) (c9:Nat) (ls:List Str),NewS W w4.heap.size A9 c9 ls→∀u0 u1,Hid (NewS ((W.setCell ⟨w.heap.size+1,0,none⟩ u0).setCell ⟨w.heap.size+1,1,none⟩ u1) w.heap.size A9 c9 ls):=fun W A9 c9 ls hW u0 u1=>
       ((hW.set (p:=⟨w.heap.size+1,0,none⟩) u0 (by show w.heap.size+1 < _;omega)).set (p:=⟨w.heap.size+1,1,none⟩) u1 (by show w.heap.size+1 < _;omega)).mono (by omega)
      have HC8:=Lib.hid hc8
      have HS8:=Lib.hid hs8
      clear hc8 hs8
      first
      |have hrf:q.rest=false:=HN.out.2.1
       have hrr:Hid ((carryP p q m).parts=fillTo q cs k2):=by
        show _=_
        rw[HI.out.parts,hrf,HFe.out]
        simp
       have hcr:Hid ((carryP p q m).rest=false):=by
        show (q.rest && m.rest)=false
        rw[hrf]
        rfl
       clear hrf
       go_wp2_with fail
       refine bodyPost_ret ?_ rfl ⟨.inr ⟨by rw[hrr.out,HFl.out];omega,some ⟨T,0,none⟩,tc,by rw[hrr.out,HFl.out,hcr.out],by rw[hrr.out];exact (HS8.out _ _ _ _ HNS.out _ _).out⟩,(HC8.out _ HCw.out _ _).out⟩
       rw[results_cell_slot rfl]
       go_simp
      |have hrt:q.rest=true:=HN.out.2.1
       obtain rfl:r=1:=by
        have:=HR.out
        have:=hse.out
        have:=HNb.out
        omega
       have hbl:=bindP_last HI.out hrt
       rw[HN.out.2.2.1] at hbl
       have hbd:=HBd.out
       rw[hse.out] at hbd
       obtain⟨b0,o0,y,rfl,hbz,hby,d0,d1,hpy⟩:=hbd.get (k:=0) (by rw[List.length_drop,HN.out.2.2.2];have:=HNb.out;omega)
       have hyp:y.p=⟨m.parts.drop p.parts.length,m.rest⟩:=by
        rw[List.getElem?_drop,Nat.add_zero,hbl] at hby
        exact (Option.some.inj hby).symm
       obtain⟨ml,hml2⟩:∃ml,m.parts.drop p.parts.length=ml:=⟨_,rfl⟩
       obtain⟨d,hd⟩:∃d,ml.length=d:=⟨_,rfl⟩
       obtain⟨mr,hmr⟩:∃mr,m.rest=mr:=⟨_,rfl⟩
       obtain⟨AY,cy,py⟩:=y
       simp only at hyp d0 d1 hpy
       subst hyp
       rw[Nat.zero_mul,Nat.add_zero] at d0 d1
       simp only[hml2,hd,hmr] at d0 d1
       have d0:=Calm.at_ HO.out.calm d0 hbz
       have d1:=Calm.at_ HO.out.calm d1 hbz
       have HPy:Hid (StrsR wq AY ml):=by
        have:=(hpy.calm HO.out.calm).r
        simp only[hml2] at this
        exact this
       have hdl:=HPy.out.len
       rw[hd] at hdl
       have hcy:d≤cy∧cy≤9223372036854775807:=by
        have h1:=hpy.room
        simp only[hml2,hd] at h1
        exact⟨h1,hpy.cap⟩
       have hcpl:Hid ((carryP p q m).parts=fillTo q cs k2++ml):=by
        show _=_
        rw[HI.out.parts,hrt,if_pos rfl,HFe.out,hml2]
       have hcpn:Hid ((carryP p q m).parts.length=k2+d):=by
        show _=_
        rw[hcpl.out,List.length_append,HFl.out,hd]
       have hcr:Hid ((carryP p q m).rest=mr):=by
        show (q.rest && m.rest)=mr
        rw[hrt,hmr]
        rfl
       have hbT:b0≠T:=by
        have:=HNS.out.new _ rfl
        have h2:w4.heap.size≤T:=this
        omega
       have HD:=Lib.hid hd
       have hsu1:IntKind.i64.wrap ((k2:Int)+(d:Int))=((k2:Int)+(d:Int)):=by rw[IntKind.wrap_i64];omega
       have hk3:(0:Int) < 1:=by omega
       have HBz:=Lib.hid hbz
       clear hbl hbd hby hpy hml2 hd hmr hrt hbz
       have h12:12 < k2+d∨k2+d≤12:=by omega
       rcases h12 with h12 | h12
       ·have hgt:(12:Int) < (k2:Int)+(d:Int):=by omega
        clear hcy hdl hbT
        go_wp2_with fail
        go_quiet (fail)
        obtain⟨wz,hwz⟩:∃wz,wz=wq.drewN nq:=⟨_,rfl⟩
        have HCz:Hid (Calm w1 wz):=by
         show Below _ _ _
         rw[hwz]
         exact HCw.out.trans ((Calm.refl wq).drewN _)
        rw[←hwz]
        have hbz:=HB.out.calm HCz.out
        have z0:=hbz.z0
        have z1:=hbz.z1
        have f0:=hbz.fz 0
        have f1:=hbz.fz 1
        clear hwz hbz d0 d1 p0 p1
        go_wp2_with fail
        refine bodyPost_ret (v:=.tuple #[.agg #[.slice none 0 0,.bool false],.int .i64 31]) ?_ rfl ⟨.inl ⟨by rw[hcpn.out];exact h12,rfl⟩,(HC8.out _ HCz.out _ _).out⟩
        rw[results_cell_slot rfl]
        go_simp
       ·have hgt:¬(12:Int) < (k2:Int)+(d:Int):=by omega
        have hgt2:(k2:Int)+(d:Int)≤(12:Int):=by omega
        go_wp2_with fail
        go_quiet (fail)
        obtain⟨wz,hwz⟩:∃wz,wz=wq.drewN nq:=⟨_,rfl⟩
        have hqz:Calm wq wz:=by
         show Below _ _ _
         rw[hwz]
         exact (Calm.refl wq).drewN _
        rw[←hwz]
        have HOz:Hid (OwnX encS 1 9 w4 wz (.slice (some ⟨T,0,none⟩) k2 tc) (fillTo q cs k2)):=HO.out.to hqz
        have HPz:Hid (StrsR wz AY ml):=HPy.out.calm hqz
        have HRz:Hid (ResP wz P (some ⟨T,0,none⟩) k2 tc false):=HRs.out.calm hqz
        have hb0z:b0 < wq.heap.size:=by
         have h1:=HO.out.calm.size
         have:=HBz.out
         omega
        have p0:=HRz.out.p0
        have p1:=HRz.out.p1
        have d0:=Calm.at_ hqz d0 hb0z
        have d1:=Calm.at_ hqz d1 hb0z
        have HD1:=Lib.hid d1
        have HB0:Hid (b0 < wz.heap.size):=Nat.lt_of_lt_of_le hb0z hqz.size
        have hPT2:P≠T:=by omega
        have hTw:w4.heap.size≤T:=HNS.out.new _ rfl
        clear hwz hqz hb0z z0 z1 f0 f1 HRes HO6 HRs HO HPy x0
        go_wp2_with fail
        go_region_law ((refine step_append_xs (enc:=encS) (K:=1) (T:=9) Tryz.underlying33 info_strS rfl (by decide) (by decide) encS_len encS_one rfl (.tmp 101) (.tmp 105) rfl w4 (.slice (some ⟨T,0,none⟩) k2 tc) (fillTo q cs k2) ml (by simp[Act.eval,Act.put]) (HOz.out.to (by first | exact Below.drew (Calm.refl _) | exact Calm.refl _)) AY d cy (by simp[Act.eval,Act.put]) HD.out (HPz.out.readS.calm (by first | exact Below.drew (Calm.refl _) | exact Calm.refl _)) (by rw[HFl.out];omega) ?_;intro v8 w8 hown8 hg8;obtain⟨A8,c8,hv8⟩:=hown8.len_shape;rw[List.length_append,HFl.out,HD.out] at hv8;subst hv8;have hR8:=(HRz.out.calm (Below.drew (Calm.refl _))).block (hg8.block P HRz.out.lt (by simpa[Value.ownBlock] using hPT2));have hP80:=hR8.p0;have hP8f:=hR8.f 0))
        all_goals
         obtain⟨w9,hw9⟩:∃w9,w9=w8.setCell ⟨P,0,none⟩ (.slice A8 (k2+d) c8):=⟨_,rfl⟩
         rw[←hw9]
         have hne:some P≠(Value.slice A8 (k2+d) c8).ownBlock:=hown8.kindne (by decide) hR8.kind
         have HO9:Hid (OwnX encS 1 9 w4 w9 (.slice A8 (k2+d) c8) (fillTo q cs k2++ml)):=by
          show OwnX _ _ _ _ _ _ _
          rw[hw9]
          exact hown8.setX (p:=⟨P,0,none⟩) _ (by show w4.heap.size≤P;omega) hne
         have HR9:Hid (ResP w9 P A8 (k2+d) c8 false):=by
          show ResP _ _ _ _ _ _
          rw[hw9]
          exact hR8.put
         have hb9:w9.heap[b0]?=wz.heap[b0]?:=by
          rw[hw9,Deep.blk_setCell_other _ _ _ _ (by show b0≠P;have:=HBz.out;omega)]
          exact hg8.block b0 HB0.out (by simpa[Value.ownBlock] using hbT)
         have d1:=(World.cell?_of_block (a:=⟨b0,o0+1,none⟩) hb9).trans HD1.out
         have HC9:Hid (Calm w1 w9):=HCq.out.trans HO9.out.calm
         have p0:=HR9.out.p0
         have p1:=HR9.out.p1
         have pf:=HR9.out.f 1
         have hbz:=HB.out.calm HC9.out
         have z0:=hbz.z0
         have z1:=hbz.z1
         have f0:=hbz.fz 0
         have f1:=hbz.fz 1
         have HNe:=Lib.hid hne
         have hP1:¬P=w.heap.size+1:=by omega
         have hP2:¬w.heap.size+1=P:=by omega
         clear hbz hb9 hw9 hne hown8 hg8 hR8 hP80 hP8f HRz HOz HPz
         have hNa:∀u,NewS (w9.setCell ⟨P,1,none⟩ u) w4.heap.size A8 c8 (carryP p q m).parts:=fun u=>by
          have:=(HO9.out.setX (p:=⟨P,1,none⟩) u (by show w4.heap.size≤P;omega) HNe.out).strsU (by rw[←hcpl.out,hcpn.out];omega) (fun x hx=>by
           have h2:=HEach.out x (by rw[hcpl.out];exact hx)
           omega)
          rw[hcpl.out]
          exact this
         have hCa:∀u,Calm w1 (w9.setCell ⟨P,1,none⟩ u):=fun u=>Below.setCell HC9.out (p:=⟨P,1,none⟩) (by show w1.heap.size≤P;have:=HCq.out.size;omega) _
         have HNa:=Lib.hid hNa
         have HCa:=Lib.hid hCa
         clear hNa hCa
         go_wp2_with fail
         refine bodyPost_ret (v:=.tuple #[.agg #[.slice A8 (k2+d) c8,.bool mr],.int .i64 0]) ?_ rfl ⟨.inr ⟨by rw[hcpn.out];exact h12,A8,c8,by rw[hcpn.out,hcr.out],(HS8.out _ _ _ _ (HNa.out _) _ _).out⟩,(HC8.out _ (HCa.out _) _ _).out⟩
         rw[results_cell_slot rfl]
         go_simp
theorem trimS_c (l m:Str) (w:World) (hl:l.length≤140737488355328):Calls Tryz.prog 275 #[.string (bs l),.string (bs m)] w fun e w'=>e=.returned (.string (bs (Lib.trimSuffix l m)))∧w=w':=
 (Tryz.strings_TrimSuffix (bs l) (bs m) w (by rw[bs_size];omega)).mono fun _ _ ⟨he,hw⟩=>⟨by rw[he,bs_toList,bs_toList];rfl,hw.symm⟩
theorem binds_end {w2 wr:World} {v:Value} {ys:List NewP} {bs:List Pat} (h:OwnX encP 2 369 w2 wr v ys) (hm:ys.map (·.p)=bs) (hp:∀y∈ys,PatA wr y.A y.c y.p):∃A2 c2,v=.slice A2 bs.length c2∧BindsR wr A2 bs∧bs.length≤c2∧c2≤9223372036854775807:=by
 subst hm
 rcases h.row encP_len with⟨rfl,h0⟩ | ⟨g,c,rfl,h1,h2,_,hr⟩
 ·subst h0
  exact⟨none,0,rfl,⟨[],rfl,fun h=>absurd rfl h,fun y hy=>by cases hy⟩,Nat.le_refl _,by omega⟩
 ·refine⟨_,c,by rw[List.length_map],⟨ys,rfl,fun _=>⟨g,0,rfl,hr.lt,fun k x hk i u hu=>hr.cell k x hk i u hu⟩,hp⟩,by rw[List.length_map];exact h1,h2⟩
set_option maxRecDepth 100000 in
set_option maxHeartbeats 8000000 in
theorem bind_c (p q:Pat) (n m c c':Nat) (re rf:Bool) (A A':Option Addr) (w:World) (hp:PatA w A c p) (hq:PatA w A' c' q) (ep:patErr p=0) (eq:patErr q=0) (hn:p.parts.length=n) (hm:q.parts.length=m) (hre:p.rest=re) (hrf:q.rest=rf) (hin:insideP q p=true) :
  Calls Tryz.prog 260 #[.agg #[.slice A n c,.bool re],.agg #[.slice A' m c',.bool rf]] w fun e w'=>(∃A2 c2,e=.returned (.tuple #[.slice A2 (bindP p q).length c2,.bool true])∧BindsR w' A2 (bindP p q)∧(bindP p q).length≤c2∧c2≤9223372036854775807)∧Calm w w':=by
 have hnl:=hp.r.len
 have hml:=hq.r.len
 rw[hn] at hnl
 rw[hm] at hml
 obtain⟨hnm,hir⟩:=insideP_inR hin
 rw[hn,hm] at hnm
 have hm0:0 < m:=by have:=(patErr_form eq).1;omega
 obtain⟨w1,hw1⟩:∃w1,w1=(w.alloc (.cells #[.slice A n c,.bool re] 65)).alloc (.cells #[.slice A' m c',.bool rf] 65):=⟨_,rfl⟩
 have hc1:Calm w w1:=by rw[hw1];exact ((Calm.refl w).alloc _).alloc _
 have hbox:BoxP w1 w.heap.size A n c re A' m c' rf:=by
  rw[hw1]
  exact⟨by simp,by simp[go_sem],by simp[go_sem],by simp[go_sem],by simp[go_sem]⟩
 have KWi:Hid (∀W,Calm w1 W→Calls Tryz.prog 274 #[.agg #[.slice A' m c',.bool rf],.agg #[.slice A n c,.bool re]] W fun e w'=>e=.returned (.bool true)∧Calm W w'):=fun W hW=>within_p q p m n c' c rf re A' A W ((hq.calm hc1).calm hW) ((hp.calm hc1).calm hW) eq ep hm hn hrf hre hin
 have KC:Hid (∀W,Calm w1 W→Calls Tryz.prog 118 #[.slice A' m c'] W fun e w'=>(∃A2 c2,e=.returned (.slice A2 m c2)∧NewS w' W.heap.size A2 c2 q.parts)∧Calm W w'):=fun W hW=>by
  have:=clone_c q.parts A' c' W ((hq.calm hc1).calm hW).r.toU
  unfold CloneEnd at this
  rw[hm] at this
  exact this
 have hin2:∀j,j < n→inside (pAt q j) (pAt p j)=true:=fun j hj=>((insideP_iff (allOk_of eq)).1 hin).2 j
 have HIn:=Lib.hid hin2
 have HW:=Lib.hid hw1
 have HC:=Lib.hid hc1
 have HB:=Lib.hid hbox
 have HN:=Lib.hid (And.intro hn (And.intro hm (And.intro hre hrf)))
 have HP:=Lib.hid (hp.calm hc1)
 have HQ:=Lib.hid (hq.calm hc1)
 have HEp:=Lib.hid ep
 have HEq:=Lib.hid eq
 clear hw1 hc1 hbox hn hm hre hrf hp hq ep eq hin hir hin2
 go_enter Tryz.func260,Tryz.ntmps260
 go_wp2_with (go_at_call 274;rw[←HW.out];refine (KWi.out w1 (Calm.refl _)).mono ?_;rintro e w2 ⟨rfl,hc2⟩;have b2:=HB.out.calm hc2;have y0:=b2.y0)
 refine (KC.out w2 hc2).mono ?_
 rintro e w3 ⟨⟨TA,tc,rfl,hN3⟩,hc3⟩
 obtain⟨T,o,x0,hTA,hTB,_,_,_⟩:=hN3.get (k:=0) (by rw[HN.out.2.1];exact hm0)
 subst hTA
 have hroom:=hN3.room
 rw[HN.out.2.1] at hroom
 have hcap:=hN3.cap
 have HC2:=Lib.hid hc2
 have HC3:=Lib.hid hc3
 have HN3:Hid (NewS w3 w2.heap.size (some ⟨T,o,none⟩) tc (trimL p q 0)):=by rw[trimL_zero];exact hN3
 have b3:=HB.out.calm (hc2.trans hc3)
 have x0:=b3.x0
 have hszw:w.heap.size+2≤w2.heap.size:=Nat.le_trans HB.out.size hc2.size
 clear hN3 hc3 b3 b2 y0 KWi KC
 go_wp2_with fail
 go_loopw [7,21] (fun v u wr=>∃(k:Nat) (ys:List NewP),k≤n∧u=.int .i64 k∧Hid (OwnX encP 2 369 w2 wr v ys)∧Hid (CapsAt T o p q k ys)∧Hid (NewS wr w2.heap.size (some ⟨T,o,none⟩) tc (trimL p q k))) (fun _ u _=>n - (intOf u).toNat)
 case atStart=>exact⟨0,[],Nat.zero_le _,rfl,OwnX.nil HC3.out,CapsAt.nil _ _ _ _,HN3.out⟩
 case round=>
  obtain⟨k,ys,hk,rfl,HO,HCa,HT⟩:=hrel
  obtain⟨wq,rfl⟩:∃wq,wq=wr:=⟨_,rfl⟩
  have HCw:Hid (Calm w1 wq):=HC2.out.trans HO.out.calm
  by_cases hlt:k < n
  ·obtain⟨b,ob,x,rfl,hb,hx,hxl,hcx⟩:=(HP.out.calm HCw.out).r.get (k:=k) (by rw[HN.out.1];exact hlt)
   have hxe:x=pAt p k:=by
    rw[pAt_get (by rw[HN.out.1];exact hlt)] at hx
    exact (Option.some.inj hx).symm
   have HXe:=Lib.hid hxe
   have hxs:=bs_size x
   obtain⟨st,hst⟩:∃st,isStar x=st:=⟨_,rfl⟩
   have KS:Hid (∀W,Calls Tryz.prog 220 #[.string (bs x)] W fun e w'=>e=.returned (.bool st)∧W=w'):=fun W=>isStar_v x st W hst
   have HSt:=Lib.hid hst
   clear hx hxe hst
   cases st with
   |false=>
    go_wp2_with (go_at_call 220;refine (KS.out _).mono ?_;rintro e w4 ⟨rfl,rfl⟩)
    go_roundw
    case rel=>exact⟨k+1,ys,by omega,by go_num,HO.out,HCa.out.lit (by rw[←HXe.out];exact HSt.out),by
     show NewS _ _ _ _ _
     rw[trimL_lit (by rw[←HXe.out];exact HSt.out)]
     exact HT.out⟩
    case measure=>simp[intOf];omega
   |true=>
    have hkm:k < m:=by omega
    obtain⟨T',o',y,e9,hTB',hy,hyl,hcy⟩:=HT.out.get (k:=k) (by rw[trimL_len,HN.out.2.1];exact hkm)
    obtain⟨rfl,rfl⟩:T=T'∧o=o':=by simpa using e9
    have hye:y=q.parts.getD k []:=by
     rw[trimL_get (by rw[HN.out.2.1];exact hkm),if_neg (fun h=>by omega)] at hy
     exact (Option.some.inj hy).symm
    have hfr:=HT.out.free (o+k)
    have hgb:T < wq.heap.size:=by
     obtain⟨cs,hh⟩:=HT.out.row _ rfl
     exact heap_lt hh
    have hyq:pAt q k=y:=by
     rw[hye]
     unfold pAt
     rw[List.getD_eq_getElem?_getD,List.getD_eq_getElem?_getD,List.getElem?_eq_getElem (by rw[HN.out.2.1];exact hkm)]
     rfl
    have hz:Lib.trimSuffix y x.tail=cap1 x y:=trim_cap HSt.out (by rw[←hyq,HXe.out];exact HIn.out k hlt) (by rw[HXe.out];exact fun e=>by have:=HSt.out;rw[HXe.out,e] at this;cases this)
    obtain⟨z,hze⟩:∃z,cap1 x y=z:=⟨_,rfl⟩
    rw[hze] at hz
    have hyl2:y.length≤16384:=by
     rw[hye]
     exact HQ.out.r.each _ (List.mem_of_getElem? (getD_get (by rw[HN.out.2.1];exact hkm)))
    have hzl:z.length≤16384:=by rw[←hze];unfold cap1;rw[List.length_take];omega
    have KTr:Hid (∀W,Calls Tryz.prog 275 #[.string (bs y),.string (bs x.tail)] W fun e w'=>e=.returned (.string (bs z))∧W=w'):=fun W=>by
     have:=trimS_c y x.tail W (by omega)
     rw[hz] at this
     exact this
    have hx1:1≤x.length:=by
     cases x with
     |nil=>have:=HSt.out;cases this
     |cons a r=>simp
    have hex:(bs x).extract 1 x.length=bs x.tail:=bs_drop1 x _ rfl
    have HZe:Hid (cap1 (pAt p k) (q.parts.getD k [])=z):=by show _=_;rw[←HXe.out,←hye,hze]
    have hb1:(1:Int)≤(x.length:Int):=by omega
    clear hy hye hyq hz hze e9
    go_wp2_with (go_at_call 220;refine (KS.out _).mono ?_;rintro e w4 ⟨rfl,rfl⟩)
    go_region_with (go_at_call 275;refine (KTr.out _).mono ?_;rintro e w5 ⟨rfl,rfl⟩)
    obtain⟨w6,hw6⟩:∃w6,w6=(wq.setCell ⟨T,o+k,none⟩ (.string (bs z))).drew:=⟨_,rfl⟩
    rw[←hw6]
    have HO6:Hid (OwnX encP 2 369 w2 w6 u7 ys):=by
     show OwnX _ _ _ _ _ _ _
     rw[hw6]
     have hrowT:∃cs,wq.heap[T]?=some (.cells cs 9 (0,0)):=HT.out.row _ rfl
     exact (HO.out.setX (p:=⟨T,o+k,none⟩) _ hTB (HO.out.kindne (by decide) hrowT)).to (Below.drew (Calm.refl _))
    have HT6:Hid (NewS w6 w2.heap.size (some ⟨T,o,none⟩) tc (trimL p q (k+1))):=by
     show NewS _ _ _ _ _
     rw[hw6,trimL_star (by rw[←HXe.out];exact HSt.out) (by rw[HN.out.2.1];exact hkm),HZe.out]
     exact (HT.out.put (k:=k) (z:=z) (by rw[trimL_len,HN.out.2.1];exact hkm) (by omega)).calm (Below.drew (Calm.refl _))
    have hmc:k+1≤tc:=by omega
    have hyk:=HCa.out.len
    clear hw6 hfr hcy hcx
    go_wp2_with (at_builtin;refine wpList_append_xs (enc:=encP) (K:=2) (T:=369) Tryz.underlying358 info_bind rfl (by decide) (by decide) encP_len encP_one rfl (.tmp 38) (.tmp 47) rfl w2 _ ys [⟨some ⟨T,o+k,none⟩,1,⟨[z],false⟩⟩] rfl (HO6.out.to ((Calm.refl _).alloc _)) _ 1 1 rfl rfl (read_newB ⟨some ⟨T,o+k,none⟩,1,⟨[z],false⟩⟩ rfl rfl rfl) (by omega) ?_;intro v7 w7 hown7 hg7)
    go_roundw
    case rel=>
     refine⟨k+1,ys++[(⟨some ⟨T,o+k,none⟩,1,⟨[z],false⟩⟩:NewP)],by omega,by go_num,Lib.hid hown7,?_,?_⟩
     ·have:=HCa.out.star (by rw[←HXe.out];exact HSt.out)
      rw[HZe.out] at this
      exact this
     ·exact (HT6.out.calm ((Calm.refl _).alloc _)).grown (by decide) (HO6.out.to ((Calm.refl _).alloc _)).own hg7
    case measure=>simp[intOf];omega
  ·obtain rfl:k=n:=by omega
   have hb3:=HB.out.calm HCw.out
   have x0:=hb3.x0
   have x1:=hb3.x1
   have y1:=hb3.y1
   have HPt:Hid (∀y∈ys,PatA wq y.A y.c y.p):=fun y hy=>by
    obtain⟨j,hj,hs,rfl⟩:=HCa.out.2 y hy
    exact texts_pat HT.out hj hs (by rw[HN.out.2.1];omega) HQ.out.r.each
   cases re with
   |false=>
    have hbs:bindP p q=(capsTo p q.parts k).map (fun c=>(⟨[c],false⟩:Pat)):=by
     unfold bindP
     rw[HN.out.2.2.1,HN.out.1]
     simp
    obtain⟨A2,c2,rfl,h1,h2,h3⟩:=binds_end HO.out HCa.out.1 HPt.out
    rw[←hbs] at h1 h2 ⊢
    have HR:=Lib.hid (And.intro h1 (And.intro h2 h3))
    clear hb3 h1 h2 h3 hbs
    go_wp2_with fail
    go_ret2
    exact⟨⟨A2,c2,rfl,HR.out⟩,HC.out.trans HCw.out⟩
   |true=>
    have hbs:bindP p q=(capsTo p q.parts k).map (fun c=>(⟨[c],false⟩:Pat))++[⟨q.parts.drop k,rf⟩]:=by
     unfold bindP
     rw[HN.out.2.2.1,HN.out.1,if_pos rfl,HN.out.2.2.2]
    have hyk:=HCa.out.len
    have HY1:=Lib.hid (And.intro y1 hb3.size)
    obtain⟨Av,cv,hv⟩:=HO.out.len_shape
    obtain⟨L,hL⟩:∃L,ys.length=L:=⟨_,rfl⟩
    rw[hL] at hv hyk
    subst hv
    have HLn:=Lib.hid hL
    have hdl:(q.parts.drop k).length=m - k:=by rw[List.length_drop,HN.out.2.1]
    obtain⟨Ar,hAre⟩:∃Ar,(if m=k then some (⟨T,o,none⟩:Addr) else some ⟨T,o+k,none⟩)=Ar:=⟨_,rfl⟩
    have HD:=Lib.hid hdl
    have HAe:=Lib.hid hAre
    clear hb3 hdl hL hAre
    go_wp2_with fail
    go_region_law ((refine step_append_xs (enc:=encP) (K:=2) (T:=369) Tryz.underlying358 info_bind rfl (by decide) (by decide) encP_len encP_one rfl (.tmp 55) (.tmp 66) rfl w2 (.slice Av L cv) ys [⟨if m=k then some (⟨T,o,none⟩:Addr) else some ⟨T,o+k,none⟩,m - k,⟨q.parts.drop k,rf⟩⟩] (by simp[Act.eval,Act.put]) (HO.out.to (by first | exact Below.drew ((Calm.refl _).alloc _) | exact (Below.drew (Calm.refl _)).alloc _ | exact (Calm.refl _).alloc _)) _ 1 1 rfl rfl ((read_newB ⟨if m=k then some (⟨T,o,none⟩:Addr) else some ⟨T,o+k,none⟩,m - k,⟨q.parts.drop k,rf⟩⟩ rfl HD.out rfl).calm (Below.drew (Calm.refl _))) (by rw[HLn.out];omega) ?_;intro v8 w8 hown8 hg8))
    have HT8:NewS w8 w2.heap.size (some ⟨T,o,none⟩) tc (trimL p q k):=(HT.out.calm (Below.drew ((Calm.refl _).alloc _))).grown (by decide) (HO.out.to (Below.drew ((Calm.refl _).alloc _))).own hg8
    rw[HAe.out] at hown8
    obtain⟨A2,c2,rfl,h1,h2,h3⟩:=binds_end (bs:=bindP p q) hown8 (by rw[hbs,List.map_append,HCa.out.1];rfl) (fun y hy=>by
     rcases List.mem_append.1 hy with hy | hy
     ·obtain⟨j,hj,hs,rfl⟩:=HCa.out.2 y hy
      exact texts_pat HT8 hj hs (by rw[HN.out.2.1];omega) HQ.out.r.each
     ·rw[List.mem_singleton] at hy
      subst hy
      have:=texts_rest (p:=p) (m:=q) Ar (m - k) HT8 HN.out.1 (fun h=>by rw[HN.out.2.1] at h;rw[←HAe.out,if_neg (by omega)]) HQ.out.r.each (by rw[HN.out.2.1];omega) (by rw[HN.out.2.1];exact Nat.le_refl _) (by omega)
      rw[HN.out.2.2.2] at this
      exact this)
    have HR:=Lib.hid (And.intro h1 (And.intro h2 h3))
    have HC8:Hid (Calm w w8):=HC.out.trans (HC2.out.trans hown8.calm)
    clear hbs h1 h2 h3 hown8 hg8
    simp only[List.getElem_toArray,List.getElem_cons_succ,List.getElem_cons_zero,Act.put,List.setIfInBounds_toArray,List.set_cons_succ,List.set_cons_zero]
    go_wp2_with fail
    all_goals
     go_ret2
     exact⟨⟨A2,c2,rfl,HR.out⟩,HC8.out⟩
structure BoxC (w1:World) (B:Nat) (A:Option Addr) (n c:Nat) (re:Bool) (A':Option Addr) (l c':Nat) (rf:Bool) (A'':Option Addr) (k c'':Nat) (rg:Bool):Prop where
 size:B+4≤w1.heap.size
 x0:w1.cell? ⟨B,0,none⟩=some (.slice A n c)
 x1:w1.cell? ⟨B,1,none⟩=some (.bool re)
 y0:w1.cell? ⟨B+1,0,none⟩=some (.slice A' l c')
 y1:w1.cell? ⟨B+1,1,none⟩=some (.bool rf)
 q0:w1.cell? ⟨B+1+1,0,none⟩=some (.slice A'' k c'')
 q1:w1.cell? ⟨B+1+1,1,none⟩=some (.bool rg)
 z0:w1.cell? ⟨B+1+1+1,0,none⟩=some (.slice none 0 0)
 z1:w1.cell? ⟨B+1+1+1,1,none⟩=some (.bool false)
 fz:∀o,w1.frozen? ⟨B+1+1+1,o,none⟩=false
theorem BoxC.calm {w1 w2:World} {B:Nat} {A:Option Addr} {n c:Nat} {re:Bool} {A':Option Addr} {l c':Nat} {rf:Bool} {A'':Option Addr} {k c'':Nat} {rg:Bool} (h:BoxC w1 B A n c re A' l c' rf A'' k c'' rg) (hc:Calm w1 w2):BoxC w2 B A n c re A' l c' rf A'' k c'' rg:=by
 have:=h.size
 have h0:B < w1.heap.size:=by omega
 have h1:B+1 < w1.heap.size:=by omega
 have h2:B+1+1 < w1.heap.size:=by omega
 have h3:B+1+1+1 < w1.heap.size:=by omega
 exact⟨Nat.le_trans h.size hc.size,hc.at_ h.x0 h0,hc.at_ h.x1 h0,hc.at_ h.y0 h1,hc.at_ h.y1 h1,hc.at_ h.q0 h2,hc.at_ h.q1 h2,hc.at_ h.z0 h3,hc.at_ h.z1 h3,fun o=>(hc.frozen (p:=⟨B+1+1+1,o,none⟩) h3).trans (h.fz o)⟩
def CarryEnd (r:Pat) (B:Nat) (e:Ending) (w':World):Prop:=
 (12 < r.parts.length∧e=.returned (.tuple #[.agg #[.slice none 0 0,.bool false],.int .i64 43])) ∨
 (r.parts.length≤12∧∃A c,e=.returned (.tuple #[.agg #[.slice A r.parts.length c,.bool r.rest],.int .i64 0])∧NewS w' B A c r.parts)
set_option maxHeartbeats 8000000 in
theorem carry_c (p m q:Pat) (n l k c c' c'':Nat) (re rf rg:Bool) (A A' A'':Option Addr) (w:World) (h:Sy.Inner p q m) (hp:PatA w A c p) (hm:PatA w A' c' m) (hq:PatA w A'' c'' q) (hn:p.parts.length=n) (hl:m.parts.length=l) (hk:q.parts.length=k) (hre:p.rest=re) (hrf:m.rest=rf) (hrg:q.rest=rg) :
  Calls Tryz.prog 238 #[.agg #[.slice A n c,.bool re],.agg #[.slice A' l c',.bool rf],.agg #[.slice A'' k c'',.bool rg]] w fun e w'=>CarryEnd (carryP p q m) w.heap.size e w'∧Calm w w':=by
 obtain⟨w1,hw1⟩:∃w1,w1=(((w.alloc (.cells #[.slice A n c,.bool re] 65)).alloc (.cells #[.slice A' l c',.bool rf] 65)).alloc (.cells #[.slice A'' k c'',.bool rg] 65)).alloc (.cells #[.slice none 0 0,.bool false] 65):=⟨_,rfl⟩
 have hc1:Calm w w1:=by rw[hw1];exact ((((Calm.refl w).alloc _).alloc _).alloc _).alloc _
 have hbox:BoxC w1 w.heap.size A n c re A' l c' rf A'' k c'' rg:=by
  rw[hw1]
  exact⟨by simp,by simp[go_sem],by simp[go_sem],by simp[go_sem],by simp[go_sem],by simp[go_sem],by simp[go_sem],by simp[go_sem],by simp[go_sem],fun o=>by simp[go_sem]⟩
 obtain⟨nb,hnb⟩:∃nb,(bindP p m).length=nb:=⟨_,rfl⟩
 have KB:Hid (∀W,Calm w1 W→Calls Tryz.prog 260 #[.agg #[.slice A n c,.bool re],.agg #[.slice A' l c',.bool rf]] W fun e w'=>(∃A2 c2,e=.returned (.tuple #[.slice A2 nb c2,.bool true])∧BindsR w' A2 (bindP p m)∧nb≤c2∧c2≤9223372036854775807)∧Calm W w'):=fun W hW=>by
  have:=bind_c p m n l c c' re rf A A' W ((hp.calm hc1).calm hW) ((hm.calm hc1).calm hW) h.tw.lp h.good hn hl hre hrf h.inn
  rw[hnb] at this
  exact this
 have KS:Hid (∀W LA lc,Calm w1 W→BindsR W LA (bindP p m)→nb≤lc→lc≤9223372036854775807→Calls Tryz.prog 261 #[.agg #[.slice A'' k c'',.bool rg],.slice LA nb lc] W fun e w'=>SubEnd (carryP p q m) W.heap.size e w'∧Calm W w'):=fun W LA lc hW hb h1 h2=>
  subst_c p q m k nb c'' lc rg A'' LA W h ((hq.calm hc1).calm hW) hk hrg hb hnb h1 h2 hm.r.each
 have HW:=Lib.hid hw1
 have HC:=Lib.hid hc1
 have HB:=Lib.hid hbox
 have hsz:w.heap.size+4≤w1.heap.size:=hbox.size
 clear hw1 hc1 hbox hn hl hk hre hrf hrg hp hm hq h hnb
 obtain⟨r,hr⟩:∃r,carryP p q m=r:=⟨_,rfl⟩
 rw[hr] at KS ⊢
 clear hr
 obtain⟨rn,hrn⟩:∃rn,r.parts.length=rn:=⟨_,rfl⟩
 obtain⟨rr,hrr⟩:∃rr,r.rest=rr:=⟨_,rfl⟩
 have HR:=Lib.hid (And.intro hrn hrr)
 clear hrn hrr
 go_enter Tryz.func238,Tryz.ntmps238
 go_wp2_with (go_at_call 260;rw[←HW.out];refine (KB.out w1 (Calm.refl _)).mono ?_;rintro e w2 ⟨⟨A2,c2,rfl,hbi,hnc,hnc2⟩,hc2⟩;have HBi:=Lib.hid hbi;have HC2:=Lib.hid hc2;have hb2:=HB.out.calm hc2;have q0:=hb2.q0;have q1:=hb2.q1;clear hbi hc2 hb2)
 refine (KS.out w2 A2 c2 HC2.out HBi.out hnc hnc2).mono ?_
 rintro e w3 ⟨hE,hc3⟩
 have HC3:Hid (Calm w1 w3):=HC2.out.trans hc3
 have hsz3:w1.heap.size≤w3.heap.size:=HC3.out.size
 have hsz2:w1.heap.size≤w2.heap.size:=HC2.out.size
 have hc8:∀(W:World),Calm w1 W→∀u0 u1,Hid (Calm w ((W.setCell ⟨w.heap.size+1+1+1,0,none⟩ u0).setCell ⟨w.heap.size+1+1+1,1,none⟩ u1)):=fun W hW u0 u1=>
  Below.setCell (Below.setCell (HC.out.trans hW) (by show w.heap.size≤w.heap.size+1+1+1;omega) _) (by show w.heap.size≤w.heap.size+1+1+1;omega) _
 have HC8:=Lib.hid hc8
 have HB3:=Lib.hid (HB.out.calm HC3.out)
 clear hc8 hc3
 rcases hE with⟨h12,rfl⟩ | ⟨h12,A3,c3,rfl,hN3⟩
 ·have H12:=Lib.hid h12
  clear h12 q0 q1
  have hb4:=HB3.out.calm ((Calm.refl w3).alloc (.cells #[.slice none 0 0,.bool false] 65))
  have z0:=hb4.z0
  have z1:=hb4.z1
  have f0:=hb4.fz 0
  have f1:=hb4.fz 1
  clear hb4
  go_wp2_with fail
  refine bodyPost_ret (v:=.tuple #[.agg #[.slice none 0 0,.bool false],.int .i64 43]) ?_ rfl ⟨.inl ⟨H12.out,rfl⟩,(HC8.out _ (HC3.out.alloc _) _ _).out⟩
  rw[results_cell_slot rfl]
  go_simp
 ·have H12:=Lib.hid h12
  have hs8:∀u0 u1,Hid (NewS (((w3.alloc (.cells #[.slice A3 rn c3,.bool rr] 65)).setCell ⟨w.heap.size+1+1+1,0,none⟩ u0).setCell ⟨w.heap.size+1+1+1,1,none⟩ u1) w.heap.size A3 c3 r.parts):=fun u0 u1=>
   (((hN3.calm ((Calm.refl _).alloc _)).set (p:=⟨w.heap.size+1+1+1,0,none⟩) u0 (by show w.heap.size+1+1+1 < _;omega)).set (p:=⟨w.heap.size+1+1+1,1,none⟩) u1 (by show w.heap.size+1+1+1 < _;omega)).mono (by omega)
  have HS8:=Lib.hid hs8
  rw[HR.out.1,HR.out.2]
  clear h12 q0 q1 hs8 hN3
  have hb4:=HB3.out.calm ((Calm.refl w3).alloc (.cells #[.slice A3 rn c3,.bool rr] 65))
  have z0:=hb4.z0
  have z1:=hb4.z1
  have f0:=hb4.fz 0
  have f1:=hb4.fz 1
  clear hb4
  go_wp2_with fail
  refine bodyPost_ret (v:=.tuple #[.agg #[.slice A3 rn c3,.bool rr],.int .i64 0]) ?_ rfl ⟨.inr ⟨H12.out,A3,c3,by rw[HR.out.1,HR.out.2],(HS8.out _ _).out⟩,(HC8.out _ (HC3.out.alloc _) _ _).out⟩
  rw[results_cell_slot rfl]
  go_simp
def NarEnd (x:Option Rule × Int) (B:Nat) (e:Ending) (w':World):Prop:=
 (x.1=none∧e=.returned (.tuple #[.agg #[.bool false,.slice none 0 0,.bool false,.slice none 0 0,.bool false],.bool false,.int .i64 x.2])) ∨
 (∃n a,x=(some n,0)∧e=.returned (.tuple #[ruleV a n,.bool true,.int .i64 0])∧RuleN w' B a n)
theorem results_cell_tt {fn:Func} {p q r:Tmp} {ty:TypeId} (h:fn.results=#[.cell p ty,.tmp q,.tmp r]) (tmps:Array Value) (P:Program) (w:World) :
  (results fn tmps).run P w=((asAddr (tmps.getD p undef)).run P w).andThen fun a w₁=>((loadVar ty a).run P w₁).andThen fun v w₂=>.ok (.tuple #[v,tmps.getD q undef,tmps.getD r undef]) w₂:=by
 simp only[results,h]
 simp[Sem.run_bind,Result.andThen]
abbrev set5 (w:World) (b:Nat) (u0 u1 u2 u3 u4:Value):World:=((((w.setCell ⟨b,0,none⟩ u0).setCell ⟨b,1,none⟩ u1).setCell ⟨b,2,none⟩ u2).setCell ⟨b,3,none⟩ u3).setCell ⟨b,4,none⟩ u4
theorem NewS.set5 {w:World} {B b c:Nat} {A:Option Addr} {ls:List Str} (h:NewS w B A c ls) (hb:b < B) (u0 u1 u2 u3 u4:Value):NewS (set5 w b u0 u1 u2 u3 u4) B A c ls:=
 ((((h.set (p:=⟨b,0,none⟩) u0 hb).set (p:=⟨b,1,none⟩) u1 hb).set (p:=⟨b,2,none⟩) u2 hb).set (p:=⟨b,3,none⟩) u3 hb).set (p:=⟨b,4,none⟩) u4 hb
theorem calm5 {w0 w:World} {b:Nat} (h:Calm w0 w) (hb:w0.heap.size≤b) (u0 u1 u2 u3 u4:Value):Calm w0 (set5 w b u0 u1 u2 u3 u4):=
 Below.setCell (p:=⟨b,4,none⟩) (Below.setCell (p:=⟨b,3,none⟩) (Below.setCell (p:=⟨b,2,none⟩) (Below.setCell (p:=⟨b,1,none⟩) (Below.setCell (p:=⟨b,0,none⟩) h hb _) hb _) hb _) hb _) hb _
structure FiveB (w:World) (B:Nat) (v0 v1 v2 v3 v4:Value):Prop where
 lt:B < w.heap.size
 c0:w.cell? ⟨B,0,none⟩=some v0
 c1:w.cell? ⟨B,1,none⟩=some v1
 c2:w.cell? ⟨B,2,none⟩=some v2
 c3:w.cell? ⟨B,3,none⟩=some v3
 c4:w.cell? ⟨B,4,none⟩=some v4
 fz:∀o,w.frozen? ⟨B,o,none⟩=false
theorem FiveB.calm {w w':World} {B:Nat} {v0 v1 v2 v3 v4:Value} (h:FiveB w B v0 v1 v2 v3 v4) (hc:Calm w w'):FiveB w' B v0 v1 v2 v3 v4:=
 ⟨Nat.lt_of_lt_of_le h.lt hc.size,hc.at_ h.c0 h.lt,hc.at_ h.c1 h.lt,hc.at_ h.c2 h.lt,hc.at_ h.c3 h.lt,hc.at_ h.c4 h.lt,fun o=>(hc.frozen (p:=⟨B,o,none⟩) h.lt).trans (h.fz o)⟩
theorem FiveB.new (w:World) (v0 v1 v2 v3 v4:Value) (T:TypeId):FiveB (w.alloc (.cells #[v0,v1,v2,v3,v4] T)) w.heap.size v0 v1 v2 v3 v4:=
 ⟨by simp,by simp[go_sem],by simp[go_sem],by simp[go_sem],by simp[go_sem],by simp[go_sem],fun o=>by simp[go_sem]⟩
structure TwoB (w:World) (B:Nat) (v0 v1:Value):Prop where
 lt:B < w.heap.size
 c0:w.cell? ⟨B,0,none⟩=some v0
 c1:w.cell? ⟨B,1,none⟩=some v1
 fz:∀o,w.frozen? ⟨B,o,none⟩=false
theorem TwoB.calm {w w':World} {B:Nat} {v0 v1:Value} (h:TwoB w B v0 v1) (hc:Calm w w'):TwoB w' B v0 v1:=
 ⟨Nat.lt_of_lt_of_le h.lt hc.size,hc.at_ h.c0 h.lt,hc.at_ h.c1 h.lt,fun o=>(hc.frozen (p:=⟨B,o,none⟩) h.lt).trans (h.fz o)⟩
theorem TwoB.new (w:World) (v0 v1:Value) (T:TypeId):TwoB (w.alloc (.cells #[v0,v1] T)) w.heap.size v0 v1:=
 ⟨by simp,by simp[go_sem],by simp[go_sem],fun o=>by simp[go_sem]⟩
theorem meet_each {p q m:Pat} {L:Nat} (hm:meetP p q=some m) (hp:∀x∈p.parts,x.length≤L) (hq:∀x∈q.parts,x.length≤L) (hL:1≤L):∀x∈m.parts,x.length≤L:=fun x hx=>by
 obtain⟨_,_,hm,_⟩:=meetP_some hm
 obtain⟨rfl,_,_⟩:=meetL_some hm
 obtain⟨j,hj,rfl⟩:=List.mem_map.1 hx
 have hat:∀(r:Pat),(∀l∈r.parts,l.length≤L)→(pAt r j).length≤L:=fun r hr=>by
  by_cases hjr:j < r.parts.length
  ·exact hr _ (List.mem_of_getElem? (pAt_get hjr))
  ·rw[pAt_out (by omega)]
   exact hL
 rcases mPart_or (pAt p j) (pAt q j) with e | e <;> rw[e]
 ·exact hat p hp
 ·exact hat q hq
set_option maxHeartbeats 16000000 in
theorem nleft_c (r:Rule) (p:Pat) (a:Pl) (n pc:Nat) (re:Bool) (A:Option Addr) (w:World) (hr:RuleU w a r) (hs:SmallR r) (hp:PatA w A pc p) (hn:p.parts.length=n) (hre:p.rest=re) :
  Calls Tryz.prog 213 #[ruleV a r,.agg #[.slice A n pc,.bool re]] w fun e w'=>NarEnd (narL r p) w.heap.size e w'∧Calm w w':=by
 obtain⟨nl,hnl⟩:∃nl,r.left.parts.length=nl:=⟨_,rfl⟩
 obtain⟨nr,hnr⟩:∃nr,r.right.parts.length=nr:=⟨_,rfl⟩
 obtain⟨lr,hlr⟩:∃lr,r.left.rest=lr:=⟨_,rfl⟩
 obtain⟨rr,hrr⟩:∃rr,r.right.rest=rr:=⟨_,rfl⟩
 obtain⟨ex,hex⟩:∃ex,r.excl=ex:=⟨_,rfl⟩
 obtain⟨w1,hw1⟩:∃w1,w1=((w.alloc (.cells #[.bool ex,.slice a.AL nl a.cl,.bool lr,.slice a.AR nr a.cr,.bool rr] 158)).alloc (.cells #[.slice A n pc,.bool re] 65)).alloc (.cells #[.bool false,.slice none 0 0,.bool false,.slice none 0 0,.bool false] 158):=⟨_,rfl⟩
 have hc1:Calm w w1:=by rw[hw1];exact (((Calm.refl w).alloc _).alloc _).alloc _
 have hbr:FiveB w1 w.heap.size (.bool ex) (.slice a.AL nl a.cl) (.bool lr) (.slice a.AR nr a.cr) (.bool rr):=by
  rw[hw1]
  exact (FiveB.new w _ _ _ _ _ _).calm (((Calm.refl _).alloc _).alloc _)
 have hbp:TwoB w1 (w.heap.size+1) (.slice A n pc) (.bool re):=by
  rw[hw1]
  have:=(TwoB.new (w.alloc (.cells #[.bool ex,.slice a.AL nl a.cl,.bool lr,.slice a.AR nr a.cr,.bool rr] 158)) (.slice A n pc) (.bool re) 65).calm ((Calm.refl _).alloc (.cells #[.bool false,.slice none 0 0,.bool false,.slice none 0 0,.bool false] 158))
  simpa using this
 have hbz:FiveB w1 (w.heap.size+1+1) (.bool false) (.slice none 0 0) (.bool false) (.slice none 0 0) (.bool false):=by
  rw[hw1]
  have:=FiveB.new ((w.alloc (.cells #[.bool ex,.slice a.AL nl a.cl,.bool lr,.slice a.AR nr a.cr,.bool rr] 158)).alloc (.cells #[.slice A n pc,.bool re] 65)) (.bool false) (.slice none 0 0) (.bool false) (.slice none 0 0) (.bool false) 158
  simpa using this
 obtain⟨v,hv⟩:∃v,ruleErr r=v:=⟨_,rfl⟩
 obtain⟨u,hu⟩:∃u,patErr p=u:=⟨_,rfl⟩
 have KR:Hid (∀W,Calm w1 W→Calls Tryz.prog 179 #[.agg #[.bool ex,.slice a.AL nl a.cl,.bool lr,.slice a.AR nr a.cr,.bool rr]] W fun e w'=>e=.returned (.int .i64 v)∧Calm W w'):=fun W hW=>by
  have:=rule_c r a W ((hr.calm hc1).calm hW)
  unfold ruleV at this
  rw[hnl,hnr,hlr,hrr,hex,hv] at this
  exact this
 have KP:Hid (∀W,Calm w1 W→Calls Tryz.prog 197 #[.agg #[.slice A n pc,.bool re]] W fun e w'=>e=.returned (.int .i64 u)∧Calm W w'):=fun W hW=>by
  have:=pcheckG_c p A pc W ((hp.calm hc1).calm hW).r.toG hp.room hp.cap
  rw[hn,hre,hu] at this
  exact this
 have hal:PatA w a.AL a.cl r.left:=⟨hr.left hs,hr.lroom,hr.lcap⟩
 have har:PatA w a.AR a.cr r.right:=⟨hr.right hs,hr.rroom,hr.rcap⟩
 have KM1:Hid (∀m,v=0→u=0→meetP r.left p=some m→∀W,Calm w1 W→Calls Tryz.prog 168 #[.agg #[.slice a.AL nl a.cl,.bool lr],.agg #[.slice A n pc,.bool re]] W fun e w'=>(∃A2 c2,e=.returned (.tuple #[.agg #[.slice A2 m.parts.length c2,.bool m.rest],.bool true])∧SmallN w' W.heap.size ⟨A2,c2,m⟩)∧Calm W w'):=fun m hv0 hu0 hm W hW=>by
  have:=meet_yes r.left p m a.AL A a.cl pc W ((hal.calm hc1).calm hW) ((hp.calm hc1).calm hW) (ruleErr_twin.1 (hv.trans hv0)).lp (hu.trans hu0) hm
  rw[hnl,hlr,hn,hre] at this
  exact this
 have KM0:Hid (v=0→u=0→meetP r.left p=none→∀W,Calm w1 W→Calls Tryz.prog 168 #[.agg #[.slice a.AL nl a.cl,.bool lr],.agg #[.slice A n pc,.bool re]] W fun e w'=>e=.returned (.tuple #[.agg #[.slice none 0 0,.bool false],.bool false])∧Calm W w'):=fun hv0 hu0 hm W hW=>by
  have:=meet_no r.left p a.AL A a.cl pc W ((hal.calm hc1).calm hW) ((hp.calm hc1).calm hW) (ruleErr_twin.1 (hv.trans hv0)).lp (hu.trans hu0) hm
  rw[hnl,hlr,hn,hre] at this
  exact this
 have KC:Hid (∀m,v=0→meetP r.left p=some m→∀W A2 c2,Calm w1 W→PatA W A2 c2 m→Calls Tryz.prog 238 #[.agg #[.slice a.AL nl a.cl,.bool lr],.agg #[.slice A2 m.parts.length c2,.bool m.rest],.agg #[.slice a.AR nr a.cr,.bool rr]] W fun e w'=>CarryEnd (carryP r.left r.right m) W.heap.size e w'∧Calm W w'):=fun m hv0 hm W A2 c2 hW hPm=>
  carry_c r.left m r.right nl m.parts.length nr a.cl c2 a.cr lr m.rest rr a.AL A2 a.AR W (inner_meet (hv.trans hv0) hm) ((hal.calm hc1).calm hW) hPm ((har.calm hc1).calm hW) hnl rfl hnr hlr rfl hrr
 have HX1:Hid (v≠0→narL r p=(none,v)):=fun h=>by
  unfold narL
  rw[hv,if_pos h]
 have HX2:Hid (v=0→u≠0→narL r p=(none,u)):=fun h h2=>by
  unfold narL
  rw[hv,if_neg (by simpa using h),hu,if_pos h2]
 have HX3:Hid (v=0→u=0→meetP r.left p=none→narL r p=(none,0)):=fun h h2 hm=>by
  unfold narL
  rw[hv,if_neg (by simpa using h),hu,if_neg (by simpa using h2),hm]
 have HX4:Hid (∀m,v=0→u=0→meetP r.left p=some m→narL r p=if 12 < (carryP r.left r.right m).parts.length then (none,43) else (some ⟨false,m,carryP r.left r.right m⟩,0)):=fun m h h2 hm=>by
  unfold narL
  rw[hv,if_neg (by simpa using h),hu,if_neg (by simpa using h2),hm]
 have HW:=Lib.hid hw1
 have HC:=Lib.hid hc1
 have HBr:=Lib.hid hbr
 have HBp:=Lib.hid hbp
 have HBz:=Lib.hid hbz
 have hsz:w.heap.size+1+1 < w1.heap.size:=hbz.lt
 unfold ruleV
 rw[hnl,hnr,hlr,hrr,hex]
 clear hw1 hc1 hbr hbp hbz hr hs hp hn hre hnl hnr hlr hrr hex hv hu hal har
 have HC8:Hid (∀W,Calm w1 W→∀u0 u1 u2 u3 u4,Calm w (set5 W (w.heap.size+1+1) u0 u1 u2 u3 u4)):=fun W hW u0 u1 u2 u3 u4=>calm5 (HC.out.trans hW) (by omega) _ _ _ _ _
 go_enter Tryz.func213,Tryz.ntmps213
 have b:=HBr.out
 have b0:=b.c0
 have b1:=b.c1
 have b2:=b.c2
 have b3:=b.c3
 have b4:=b.c4
 clear b
 go_wp2_with fail
 rw[←HW.out]
 refine (KR.out w1 (Calm.refl _)).mono ?_
 rintro e w2 ⟨rfl,hc2⟩
 clear b0 b1 b2 b3 b4
 have HC2:=Lib.hid hc2
 by_cases hv0:v=0
 ·subst hv0
  have p0:=(HBp.out.calm hc2).c0
  have p1:=(HBp.out.calm hc2).c1
  clear hc2
  go_wp2_with fail
  refine (KP.out w2 HC2.out).mono ?_
  rintro e w3 ⟨rfl,hc3⟩
  have HC3:Hid (Calm w1 w3):=HC2.out.trans hc3
  clear p0 p1 hc3
  by_cases hu0:u=0
  ·subst hu0
   have b:=HBr.out.calm HC3.out
   have b1:=b.c1
   have b2:=b.c2
   have p0:=(HBp.out.calm HC3.out).c0
   have p1:=(HBp.out.calm HC3.out).c1
   clear b
   rcases hmm:meetP r.left p with _ | m
   ·have HX:=Lib.hid (HX3.out (by trivial) (by trivial) hmm)
    have KM:=Lib.hid (KM0.out (by trivial) (by trivial) hmm w3 HC3.out)
    clear hmm
    go_wp2_with fail
    refine KM.out.mono ?_
    rintro e w4 ⟨rfl,hc4⟩
    have hz:=HBz.out.calm ((HC3.out.trans hc4).alloc (.cells #[.slice none 0 0,.bool false] 65))
    have z0:=hz.c0
    have z1:=hz.c1
    have z2:=hz.c2
    have z3:=hz.c3
    have z4:=hz.c4
    have f0:=hz.fz 0
    have f1:=hz.fz 1
    have f2:=hz.fz 2
    have f3:=hz.fz 3
    have f4:=hz.fz 4
    have HC4:Hid (Calm w1 w4):=HC3.out.trans hc4
    clear hz hc4 b1 b2 p0 p1
    go_wp2_with fail
    refine bodyPost_ret (v:=.tuple #[.agg #[.bool false,.slice none 0 0,.bool false,.slice none 0 0,.bool false],.bool false,.int .i64 0]) ?_ rfl ⟨.inl (by rw[HX.out];exact⟨rfl,rfl⟩),HC8.out _ (HC4.out.alloc _) _ _ _ _ _⟩
    rw[results_cell_tt rfl]
    go_simp
   ·have hx:=HX4.out m (by trivial) (by trivial) hmm
    have KM:=Lib.hid (KM1.out m (by trivial) (by trivial) hmm w3 HC3.out)
    have KCm:=Lib.hid (KC.out m (by trivial) hmm)
    clear hmm
    obtain⟨cr,hcr⟩:∃cr,carryP r.left r.right m=cr:=⟨_,rfl⟩
    rw[hcr] at hx KCm
    obtain⟨mn,hmn⟩:∃mn,m.parts.length=mn:=⟨_,rfl⟩
    obtain⟨mr,hmr⟩:∃mr,m.rest=mr:=⟨_,rfl⟩
    obtain⟨cn,hcn⟩:∃cn,cr.parts.length=cn:=⟨_,rfl⟩
    obtain⟨ct,hct⟩:∃ct,cr.rest=ct:=⟨_,rfl⟩
    rw[hmn,hmr] at KM KCm
    have HN:=Lib.hid (And.intro hmn (And.intro hmr (And.intro hcn hct)))
    rw[hcn] at hx
    have HX:=Lib.hid hx
    clear hx hcr hmn hmr hcn hct
    go_wp2_with fail
    refine KM.out.mono ?_
    rintro e w4 ⟨⟨A2,c2,rfl,hSm⟩,hc4⟩
    clear b1 b2 p0 p1
    have HC5:Hid (Calm w1 (w4.alloc (.cells #[.slice A2 mn c2,.bool mr] 65))):=(HC3.out.trans hc4).alloc _
    have hm:=TwoB.new w4 (.slice A2 mn c2) (.bool mr) 65
    have HSm:Hid (SmallN (w4.alloc (.cells #[.slice A2 mn c2,.bool mr] 65)) w3.heap.size ⟨A2,c2,m⟩):=hSm.calm ((Calm.refl _).alloc _)
    have hsz3:w1.heap.size≤w3.heap.size:=HC3.out.size
    have b:=HBr.out.calm HC5.out
    have b1:=b.c1
    have b2:=b.c2
    have b3:=b.c3
    have b4:=b.c4
    have m0:=hm.c0
    have m1:=hm.c1
    have HMb:=Lib.hid hm
    clear b hm hSm hc4
    go_wp2_with fail
    obtain⟨w5,hw5⟩:∃w5,w5=w4.alloc (.cells #[.slice A2 mn c2,.bool mr] 65):=⟨_,rfl⟩
    rw[←hw5] at HC5 HMb HSm ⊢
    obtain⟨M,hM⟩:∃M,w4.heap.size=M:=⟨_,rfl⟩
    rw[hM] at HMb
    simp only[hM]
    clear hw5 hM b1 b2 b3 b4 m0 m1
    refine (KCm.out w5 A2 c2 HC5.out HSm.out.a).mono ?_
    rintro e w6 ⟨hE,hc6⟩
    have HC6:Hid (Calm w5 w6):=hc6
    clear hc6
    rcases hE with⟨h12,rfl⟩ | ⟨h12,A3,c3,rfl,hN3⟩
    ·rw[HN.out.2.2.1] at h12
     have HX2':Hid (narL r p=(none,43)):=by
      show _=_
      rw[HX.out,if_pos h12]
     have hz:=HBz.out.calm ((HC5.out.trans HC6.out).alloc (.cells #[.slice none 0 0,.bool false] 65))
     have z0:=hz.c0
     have z1:=hz.c1
     have z2:=hz.c2
     have z3:=hz.c3
     have z4:=hz.c4
     have f0:=hz.fz 0
     have f1:=hz.fz 1
     have f2:=hz.fz 2
     have f3:=hz.fz 3
     have f4:=hz.fz 4
     clear hz h12
     go_wp2_with fail
     refine bodyPost_ret (v:=.tuple #[.agg #[.bool false,.slice none 0 0,.bool false,.slice none 0 0,.bool false],.bool false,.int .i64 43]) ?_ rfl ⟨.inl (by rw[HX2'.out];exact⟨rfl,rfl⟩),HC8.out _ ((HC5.out.trans HC6.out).alloc _) _ _ _ _ _⟩
     rw[results_cell_tt rfl]
     go_simp
    ·rw[HN.out.2.2.1] at h12
     have HX2':Hid (narL r p=(some ⟨false,m,cr⟩,0)):=by
      show _=_
      rw[HX.out,if_neg (by omega)]
     rw[HN.out.2.2.1,HN.out.2.2.2]
     have hsz5:w1.heap.size≤w5.heap.size:=HC5.out.size
     have HRu:Hid (∀u0 u1 u2 u3 u4,RuleN (set5 (w6.alloc (.cells #[.slice A3 cn c3,.bool ct] 65)) (w.heap.size+1+1) u0 u1 u2 u3 u4) w.heap.size ⟨A2,c2,A3,c3⟩ ⟨false,m,cr⟩):=fun u0 u1 u2 u3 u4=>
      ⟨(((HSm.out.calm (HC6.out.alloc _)).new.mono (show w1.heap.size≤_ from hsz3)).set5 hsz _ _ _ _ _).mono (by omega),(((hN3.calm ((Calm.refl _).alloc _)).mono (show w1.heap.size≤_ from hsz5)).set5 hsz _ _ _ _ _).mono (by omega)⟩
     have hm:=HMb.out.calm (HC6.out.alloc (.cells #[.slice A3 cn c3,.bool ct] 65))
     have m0:=hm.c0
     have m1:=hm.c1
     have hn:=TwoB.new w6 (.slice A3 cn c3) (.bool ct) 65
     have n0:=hn.c0
     have n1:=hn.c1
     have hz:=HBz.out.calm ((HC5.out.trans HC6.out).alloc (.cells #[.slice A3 cn c3,.bool ct] 65))
     have z0:=hz.c0
     have z1:=hz.c1
     have z2:=hz.c2
     have z3:=hz.c3
     have z4:=hz.c4
     have f0:=hz.fz 0
     have f1:=hz.fz 1
     have f2:=hz.fz 2
     have f3:=hz.fz 3
     have f4:=hz.fz 4
     clear hz h12 hm hn hN3
     go_wp2_with fail
     refine bodyPost_ret (v:=.tuple #[.agg #[.bool false,.slice A2 mn c2,.bool mr,.slice A3 cn c3,.bool ct],.bool true,.int .i64 0]) ?_ rfl ⟨.inr ⟨⟨false,m,cr⟩,⟨A2,c2,A3,c3⟩,HX2'.out,by unfold ruleV;rw[HN.out.1,HN.out.2.1,HN.out.2.2.1,HN.out.2.2.2],HRu.out _ _ _ _ _⟩,HC8.out _ ((HC5.out.trans HC6.out).alloc _) _ _ _ _ _⟩
     rw[results_cell_tt rfl]
     go_simp
  ·have HX:=Lib.hid (HX2.out (by trivial) hu0)
   have hu1:(u == 0)=false:=by rw[beq_eq_false_iff_ne];exact hu0
   have hz:=HBz.out.calm HC3.out
   have z0:=hz.c0
   have z1:=hz.c1
   have z2:=hz.c2
   have z3:=hz.c3
   have z4:=hz.c4
   have f0:=hz.fz 0
   have f1:=hz.fz 1
   have f2:=hz.fz 2
   have f3:=hz.fz 3
   have f4:=hz.fz 4
   clear hz
   go_wp2_with fail
   refine bodyPost_ret (v:=.tuple #[.agg #[.bool false,.slice none 0 0,.bool false,.slice none 0 0,.bool false],.bool false,.int .i64 u]) ?_ rfl ⟨.inl (by rw[HX.out];exact⟨rfl,rfl⟩),HC8.out _ HC3.out _ _ _ _ _⟩
   rw[results_cell_tt rfl]
   go_simp
 ·have HX:=Lib.hid (HX1.out hv0)
  have hv1:(v == 0)=false:=by rw[beq_eq_false_iff_ne];exact hv0
  have hz:=HBz.out.calm hc2
  have z0:=hz.c0
  have z1:=hz.c1
  have z2:=hz.c2
  have z3:=hz.c3
  have z4:=hz.c4
  have f0:=hz.fz 0
  have f1:=hz.fz 1
  have f2:=hz.fz 2
  have f3:=hz.fz 3
  have f4:=hz.fz 4
  clear hz hc2
  go_wp2_with fail
  refine bodyPost_ret (v:=.tuple #[.agg #[.bool false,.slice none 0 0,.bool false,.slice none 0 0,.bool false],.bool false,.int .i64 v]) ?_ rfl ⟨.inl (by rw[HX.out];exact⟨rfl,rfl⟩),HC8.out _ HC2.out _ _ _ _ _⟩
  rw[results_cell_tt rfl]
  go_simp
end Go.Proofs.YtcofdlipapnohaaGreatDoor
