/- Walk: (*history.check).everyEdit at the empty depot. -/
import Derived.Deep.RegionHeld3
import Derived.Test.YtcofdlipapnohaaGreatDoorZHisC
import Derived.Test.YtcofdlipapnohaaGreatDoorZEdRow
set_option linter.unusedVariables false
set_option linter.unusedSimpArgs false
namespace Go.Proofs.YtcofdlipapnohaaGreatDoor
open Go Go.RowKit Sy
theorem zero_rev (w:World):(zeroValue 105).run Tryz.prog w=.ok (.agg #[.string ⟨#[]⟩,.int .i64 0,.int .i64 0,.int .i64 0,.int .i64 0,.bool false,.bool false,.bool false,.int .u64 0,.int .i64 0,.string ⟨#[]⟩,.int .i64 0]) w:=by kernel_rfl
theorem look_emp {w:World} {M:Nat} (h:MapH w M 0 (.map [])) (s:Str) (hs:s.length≤1048576) :
  (Instr.lookup 228 (.map (some M)) (.string (bs s)) true).run Tryz.prog w=.ok (.tuple #[(.agg #[.string ⟨#[]⟩,.int .i64 0,.int .i64 0,.int .i64 0,.int .i64 0,.bool false,.bool false,.bool false,.int .u64 0,.int .i64 0,.string ⟨#[]⟩,.int .i64 0]),.bool false]) w:=by
 obtain⟨v,ps,hrun,hv⟩:=World.ownsMap.look_ok h keyS_law Tryz.underlying228 (zero_rev w) (show heldR (.agg #[.string ⟨#[]⟩,.int .i64 0,.int .i64 0,.int .i64 0,.int .i64 0,.bool false,.bool false,.bool false,.int .u64 0,.int .i64 0,.string ⟨#[]⟩,.int .i64 0])=some (.held (.agg #[.string ⟨#[]⟩,.int .i64 0,.int .i64 0,.int .i64 0,.int .i64 0,.bool false,.bool false,.bool false,.int .u64 0,.int .i64 0,.string ⟨#[]⟩,.int .i64 0]),[]) from rfl) (keyS_of s hs)
 have:v=(.agg #[.string ⟨#[]⟩,.int .i64 0,.int .i64 0,.int .i64 0,.int .i64 0,.bool false,.bool false,.bool false,.int .u64 0,.int .i64 0,.string ⟨#[]⟩,.int .i64 0]):=by
  simp[heldR,DataW.atKey] at hv
  exact hv.1
 rw[hrun,this]
 rfl
set_option maxRecDepth 100000 in
set_option maxHeartbeats 4000000 in
theorem live_c (B M1 M2 M3:Nat) (num:Int) (cl tx:Str) (EA:Option Addr) (n c k:Nat) (D:DataW Value) (w:World) (h:CheckAt w B M1 M2 M3 num cl tx EA n c k D) (s:Str) (hs:s.length≤1048576) :
  Calls Tryz.prog 226 #[.pointer (some ⟨B,0,none⟩),.string (bs s)] w fun e w'=>e=.returned (.tuple #[(.agg #[.string ⟨#[]⟩,.int .i64 0,.int .i64 0,.int .i64 0,.int .i64 0,.bool false,.bool false,.bool false,.int .u64 0,.int .i64 0,.string ⟨#[]⟩,.int .i64 0]),.bool false])∧Calm w w':=by
 have k2:=h.z.at_ 2 _ rfl
 have k7:=h.z.at_ 7 _ rfl
 have lB:=h.z.lt
 have HL:Hid (∀W,Calm w W→(Instr.lookup 228 (.map (some M1)) (.string (bs s)) true).run Tryz.prog W=.ok (.tuple #[(.agg #[.string ⟨#[]⟩,.int .i64 0,.int .i64 0,.int .i64 0,.int .i64 0,.bool false,.bool false,.bool false,.int .u64 0,.int .i64 0,.string ⟨#[]⟩,.int .i64 0]),.bool false]) W):=fun W hW=>look_emp (h.last.calm hW) s hs
 have hl:=HL.out _ ((Calm.refl w).alloc (.cells #[.string ⟨#[]⟩,.int .i64 0,.int .i64 0,.int .i64 0,.int .i64 0,.bool false,.bool false,.bool false,.int .u64 0,.int .i64 0,.string ⟨#[]⟩,.int .i64 0] 105))
 clear h HL
 go_enter Tryz.func226,Tryz.ntmps226
 go_wp2_with fail
 go_region
 all_goals
  go_wp2_with fail
  refine bodyPost_ret (v:=.tuple #[(.agg #[.string ⟨#[]⟩,.int .i64 0,.int .i64 0,.int .i64 0,.int .i64 0,.bool false,.bool false,.bool false,.int .u64 0,.int .i64 0,.string ⟨#[]⟩,.int .i64 0]),.bool false]) ?_ rfl ⟨rfl,?_⟩
  ·rw[results_cell_slot rfl]
   go_simp
  ·first
    |exact ((Calm.refl w).alloc _).alloc _
    |exact Below.drew (((Calm.refl w).alloc _).alloc _)
def oneE (x:Edt):Int:=
 if x.act=1∨x.act=4 then
  if x.base≠0 then 114 else if x.act=4 then 115 else if x.frm≠[]∨x.fn≠0 then 115 else if typeE x.tb x.tk x.tx x.te≠0∨x.size < 0 then 116 else 0
 else 113
set_option maxRecDepth 100000 in
set_option maxHeartbeats 4000000 in
theorem oneEdit_c (B M1 M2 M3:Nat) (num:Int) (cl tx:Str) (EA:Option Addr) (n c k:Nat) (D:DataW Value) (w:World) (h:CheckAt w B M1 M2 M3 num cl tx EA n c k D) (x:Edt) (hs:x.path.length≤1048576) (hf:x.frm.length≤1048576) :
  Calls Tryz.prog 186 #[.pointer (some ⟨B,0,none⟩),.agg (encEd x).toArray] w fun e w'=>e=.returned (.int .i64 (oneE x))∧Calm w w':=by
 obtain⟨w1,hw1⟩:∃w1,w1=w.alloc (.cells (encEd x).toArray 32):=⟨_,rfl⟩
 have hc1:Calm w w1:=by rw[hw1];exact (Calm.refl w).alloc _
 have KL:=Lib.hid fun (W:World) (hW:Calm w1 W)=>live_c B M1 M2 M3 num cl tx EA n c k D W (h.calm (hc1.trans hW)) x.path hs
 have KM:=Lib.hid fun (W:World) (hW:Calm w1 W)=>live_c B M1 M2 M3 num cl tx EA n c k D W (h.calm (hc1.trans hW)) x.frm hf
 obtain⟨R,hR⟩:∃R,oneE x=R:=⟨_,rfl⟩
 rw[hR]
 obtain⟨p,act,tb,tk,te1,te,sum,size,base,frm,fn,fence⟩:=x
 unfold oneE at hR
 simp only at hR KL KM
 simp only[encEd] at hw1 ⊢
 have hat:EdAt w1 w.heap.size 0 ⟨p,act,tb,tk,te1,te,sum,size,base,frm,fn,fence⟩:=by
  have hz:=CellsB.new w #[.string (bs p),.int .i64 act,.int .i64 tb,.bool tk,.bool te1,.bool te,.int .u64 sum,.int .i64 size,.int .i64 base,.string (bs frm),.int .i64 fn,.int .i64 fence] 32
  rw[hw1]
  exact⟨hz.at_ 0 _ rfl,hz.at_ 1 _ rfl,hz.at_ 2 _ rfl,hz.at_ 3 _ rfl,hz.at_ 4 _ rfl,hz.at_ 5 _ rfl,hz.at_ 6 _ rfl,hz.at_ 7 _ rfl,hz.at_ 8 _ rfl,hz.at_ 9 _ rfl,hz.at_ 10 _ rfl,hz.at_ 11 _ rfl⟩
 have lb1:w.heap.size < w1.heap.size:=by rw[hw1];simp
 have HB:=Lib.hid fun (W:World) (hW:Calm w1 W)=>hat.calm lb1 hW
 have HC1:=Lib.hid hc1
 clear h hat hc1
 have c0:(w.alloc (.cells #[.string (bs p),.int .i64 act,.int .i64 tb,.bool tk,.bool te1,.bool te,.int .u64 sum,.int .i64 size,.int .i64 base,.string (bs frm),.int .i64 fn,.int .i64 fence] 32)).cell? ⟨w.heap.size,0,none⟩=some (.string (bs p)):=by rw[←hw1];exact (HB.out _ (Calm.refl _)).c0
 go_enter Tryz.func186,Tryz.ntmps186
 go_wp2_with fail
 rw[←hw1]
 refine (KL.out w1 (Calm.refl _)).mono ?_
 rintro e w2 ⟨rfl,hc2⟩
 have hat:=HB.out w2 hc2
 have lb2:=Nat.lt_of_lt_of_le lb1 hc2.size
 have HC2:=Lib.hid (HC1.out.trans hc2)
 have HC2':=Lib.hid hc2
 have c0':=hat.c0
 have c1:=hat.c1
 have c2:=hat.c2
 have c3:=hat.c3
 have c4:=hat.c4
 have c5:=hat.c5
 have c7:=hat.c7
 have c8:=hat.c8
 have c9:=hat.c9
 have c10:=hat.c10
 clear hat hc2 c0 hw1
 by_cases h14:act=1∨act=4
 ·rw[if_pos h14] at hR
  by_cases hb:base≠0
  ·rw[if_pos hb] at hR
   subst hR
   have hb':(base == 0)=false:=by simpa using hb
   rcases h14 with rfl | rfl
   all_goals
    go_wp2_with fail
    go_ret
    exact⟨rfl,HC2.out.alloc _⟩
  ·rw[if_neg hb] at hR
   simp only[ne_eq,Decidable.not_not] at hb
   subst hb
   rcases h14 with rfl | rfl
   ·rw[if_neg (by decide)] at hR
    by_cases hf0:frm≠[]∨fn≠0
    ·rw[if_pos hf0] at hR
     subst hR
     by_cases hf1:frm=[]
     ·subst hf1
      have hfn:(fn == 0)=false:=by rcases hf0 with h | h;exact absurd rfl h;simpa using h
      clear hf0
      go_wp2_with fail
      go_ret
      exact⟨rfl,HC2.out.alloc _⟩
     ·clear hf0
      have hne:bs frm≠⟨#[]⟩:=fun e=>hf1 (List.length_eq_zero_iff.1 (by have:=congrArg ByteArray.size e;rw[bs_size] at this;exact this))
      go_wp2_with fail
      go_ret
      exact⟨rfl,HC2.out.alloc _⟩
    ·rw[if_neg hf0] at hR
     have hf1:frm=[]:=Decidable.byContradiction fun h=>hf0 (.inl h)
     have hf2:fn=0:=Decidable.byContradiction fun h=>hf0 (.inr h)
     subst hf1 hf2
     clear hf0
     go_wp2_with fail
     refine (type_c tb tk te1 te _).mono ?_
     rintro e w3 ⟨rfl,hc3⟩
     have HC3:=Lib.hid (((Calm.refl w2).alloc _).trans hc3)
     have c1:=Calm.at_ HC3.out c1 lb2
     have c7:=Calm.at_ HC3.out c7 lb2
     clear hc3
     by_cases ht:typeE tb tk te1 te≠0
     ·rw[if_pos (.inl ht)] at hR
      subst hR
      have ht':(typeE tb tk te1 te == 0)=false:=by simpa using ht
      go_wp2_with fail
      go_ret
      exact⟨rfl,HC2.out.trans HC3.out⟩
     ·have ht0:typeE tb tk te1 te=0:=by simpa using ht
      rw[ht0]
      by_cases hz:size < 0
      ·rw[if_pos (.inr hz)] at hR
       subst hR
       clear ht
       go_wp2_with fail
       go_ret
       exact⟨rfl,HC2.out.trans HC3.out⟩
      ·rw[if_neg (fun h=>h.elim ht hz)] at hR
       subst hR
       clear ht
       go_wp2_with fail
       refine (hlive_c 1 _).mono ?_
       rintro e w4 ⟨rfl,rfl⟩
       go_wp2_with fail
       go_ret
       exact⟨rfl,HC2.out.trans HC3.out⟩
   ·rw[if_pos rfl] at hR
    subst hR
    go_wp2_with fail
    refine (KM.out _ (HC2'.out.alloc _)).mono ?_
    rintro e w3 ⟨rfl,hc3⟩
    have HC3:=Lib.hid (((Calm.refl w2).alloc _).trans hc3)
    have c0':=Calm.at_ HC3.out c0' lb2
    clear hc3
    go_wp2_with fail
    go_ret
    exact⟨rfl,(HC2.out.trans HC3.out).alloc _⟩
 ·rw[if_neg h14] at hR
  subst hR
  have n1:act≠1:=fun e=>h14 (.inl e)
  have n4:act≠4:=fun e=>h14 (.inr e)
  clear h14
  by_cases h2:act=2
  ·subst h2
   go_wp2_with fail
   go_ret
   exact⟨rfl,HC2.out.alloc _⟩
  ·by_cases h3:act=3
   ·subst h3
    go_wp2_with fail
    go_ret
    exact⟨rfl,HC2.out.alloc _⟩
   ·by_cases h5:act=5
    ·subst h5
     go_wp2_with fail
     go_ret
     exact⟨rfl,HC2.out.alloc _⟩
    ·have e1:(act == 1)=false:=by simpa using n1
     have e2:(act == 2)=false:=by simpa using h2
     have e3:(act == 3)=false:=by simpa using h3
     have e4:(act == 4)=false:=by simpa using n4
     have e5:(act == 5)=false:=by simpa using h5
     go_wp2_with fail
     go_ret
     exact⟨rfl,HC2.out.alloc _⟩
theorem Calm.grew {w w':World} (h:Calm w w') (row:Option Nat):w.grownBy w' row:=⟨h.os,h.tape,h.output,h.size,fun i hi _=>h.block i hi⟩
theorem CheckAt.grew {w w':World} {B M1 M2 M3:Nat} {num:Int} {cl tx:Str} {EA:Option Addr} {n c k k':Nat} {D D':DataW Value} (h:CheckAt w B M1 M2 M3 num cl tx EA n c k D) (hg:w.grownBy w' (some M2)) (hm:MapH w' M2 k' D'):CheckAt w' B M1 M2 M3 num cl tx EA n c k' D':=
 ⟨h.z.grown hg (fun e=>h.ne.2 (by cases e;rfl)),World.ownsMap.kept h.last hg (fun e=>h.ne.1 (by cases e;rfl)),hm,h.ne⟩
theorem EdAt.grew {w w':World} {b o M:Nat} {x:Edt} (h:EdAt w b o x) (hb:b < w.heap.size) (hg:w.grownBy w' (some M)) (hM:b≠M):EdAt w' b o x:=
 have hc:∀{i:Nat} {v:Value},w.cell? ⟨b,i,none⟩=some v→w'.cell? ⟨b,i,none⟩=some v:=fun {i v} h=>hg.cell h (fun e=>hM (by cases e;rfl))
 ⟨hc h.c0,hc h.c1,hc h.c2,hc h.c3,hc h.c4,hc h.c5,hc h.c6,hc h.c7,hc h.c8,hc h.c9,hc h.c10,hc h.c11⟩
def everyE:Str→List Edt→Int
 |_,[]=>0
 |b,x :: t=>if pathS x.path=false then 111 else if b≠[]∧0≤(cmpP b x.path).1 then 112 else if oneE x≠0 then oneE x else everyE x.path t
theorem everyE_add {l:List Edt}:∀{b:Str},everyE b l=0→∀x∈l,x.act=1:=by
 induction l with
 |nil=>intro b h x hx;cases hx
 |cons y t ih=>
  intro b h x hx
  unfold everyE at h
  split at h
  ·exact absurd h (by decide)
  ·split at h
   ·exact absurd h (by decide)
   ·split at h
    ·next h1=>exact absurd h h1
    ·next h1=>
     rcases List.mem_cons.1 hx with rfl | hx
     ·simp only[ne_eq,Decidable.not_not] at h1
      unfold oneE at h1
      by_cases h14:x.act=1∨x.act=4
      ·rcases h14 with h | h
       ·exact h
       ·rw[if_pos (.inr h)] at h1
        split at h1
        ·exact absurd h1 (by decide)
        ·exact absurd h1 (by decide)
      ·rw[if_neg h14] at h1
       exact absurd h1 (by decide)
     ·exact ih h x hx
set_option maxRecDepth 100000 in
set_option maxHeartbeats 8000000 in
theorem everyEdit_c (B M1 M2 M3:Nat) (num:Int) (cl tx:Str) (EA:Option Addr) (n c k:Nat) (D:DataW Value) (w:World) (h:CheckAt w B M1 M2 M3 num cl tx EA n c k D) (l:List Edt) (hX:ReadX encEd 12 w EA l) (hl:l.length=n) (hn:n≤64) (hk:k≤1000)
  (hs:∀x∈l,x.path.length≤1048576∧x.frm.length≤1048576) (hEM:∀b o,EA=some ⟨b,o,none⟩→b≠M2) :
  Calls Tryz.prog 141 #[.pointer (some ⟨B,0,none⟩)] w fun e w'=>e=.returned (.int .i64 (everyE [] l))∧w.grownBy w' (some M2)∧∃k' D',MapH w' M2 k' D':=by
 have k5:=h.z.at_ 5 _ rfl
 have lB:=h.z.lt
 have k8:=h.z.at_ 8 _ rfl
 have HE:=Lib.hid fun (W:World) (k':Nat) (D':DataW Value) (hg:w.grownBy W (some M2)) (hm:MapH W M2 k' D')=>h.grew hg hm
 have HBM:=Lib.hid h.ne.2
 have HX:Hid (ReadX encEd 12 w EA l):=hX
 have HL:=Lib.hid hl
 have HS:=Lib.hid hs
 have HEM:=Lib.hid hEM
 have HM:=Lib.hid h.edits
 have HK:=Lib.hid hk
 obtain⟨R,hR⟩:∃R,everyE [] l=R:=⟨_,rfl⟩
 have HR:=Lib.hid hR
 rw[hR]
 clear h hX hl hs hEM hk hR
 go_enter Tryz.func141,Tryz.ntmps141
 go_wp2_with fail
 go_loopw [3,13] (fun v i wr=>∃(j:Nat) (bf:Str) (k':Nat) (D':DataW Value),j≤n∧i=.int .i64 j∧v=.string (bs bf)∧bf.length≤1048576∧k'≤k+j∧Hid (everyE bf (l.drop j)=R)∧Hid (w.grownBy wr (some M2))∧Hid (MapH wr M2 k' D')) (fun _ i _=>n - (intOf i).toNat)
 case atStart=>exact⟨0,[],k,D,Nat.zero_le _,rfl,rfl,by simp,Nat.le_refl _,HR.out,(Calm.refl w).grew _,HM.out⟩
 case round=>
  obtain⟨j,bf,k',D',hj,rfl,rfl,hbf,hkk,HRj,HG,HMj⟩:=hrel
  by_cases hlt:j < n
  ·obtain⟨b,o,x,hEA,hb,hx,hat⟩:=edits_get HX.out (k:=j) (by rw[HL.out];exact hlt)
   have hat:=hat.grew hb HG.out (HEM.out b o hEA)
   have hb:=Nat.lt_of_lt_of_le hb HG.out.size
   obtain⟨hp,hf⟩:=HS.out x (List.mem_of_getElem? hx)
   have HRx:Hid (everyE bf (x :: l.drop (j+1))=R):=by
    have:=HRj.out
    rw[List.drop_eq_getElem_cons (by rw[HL.out];exact hlt)] at this
    rw[List.getElem?_eq_getElem (by rw[HL.out];exact hlt)] at hx
    cases hx
    exact this
   clear HRj hx
   subst hEA
   have c0:=hat.c0
   have c1:=hat.c1
   have c2:=hat.c2
   have c3:=hat.c3
   have c4:=hat.c4
   have c5:=hat.c5
   have c6:=hat.c6
   have c7:=hat.c7
   have c8:=hat.c8
   have c9:=hat.c9
   have c10:=hat.c10
   have c11:=hat.c11
   obtain⟨w3,hw3⟩:∃w3,w3=wr.alloc (.cells (encEd x).toArray 32):=⟨_,rfl⟩
   have hat3:EdAt w3 wr.heap.size 0 x:=by
    have hz:=CellsB.new wr (encEd x).toArray 32
    rw[hw3]
    exact⟨hz.at_ 0 _ rfl,hz.at_ 1 _ rfl,hz.at_ 2 _ rfl,hz.at_ 3 _ rfl,hz.at_ 4 _ rfl,hz.at_ 5 _ rfl,hz.at_ 6 _ rfl,hz.at_ 7 _ rfl,hz.at_ 8 _ rfl,hz.at_ 9 _ rfl,hz.at_ 10 _ rfl,hz.at_ 11 _ rfl⟩
   have hc3:Calm wr w3:=by rw[hw3];exact (Calm.refl wr).alloc _
   clear hat
   simp only[encEd] at hw3
   go_wp2_with fail
   rw[←hw3]
   have lb3:wr.heap.size < w3.heap.size:=by rw[hw3];simp
   have HC3:=Lib.hid hc3
   clear hc3 c0 c1 c2 c3 c4 c5 c6 c7 c8 c9 c10 c11 hw3
   have q0:=hat3.c0
   have q1:=hat3.c1
   have q2:=hat3.c2
   have q3:=hat3.c3
   have q4:=hat3.c4
   have q5:=hat3.c5
   have q6:=hat3.c6
   have q7:=hat3.c7
   have q8:=hat3.c8
   have q9:=hat3.c9
   have q10:=hat3.c10
   have q11:=hat3.c11
   refine (pvalid_c x.path w3 (by omega)).mono ?_
   rintro e _ ⟨rfl,rfl⟩
   by_cases hv:validS x.path=true
   ·by_cases h200:200 < x.path.length
    ·have hpf:pathS x.path=false:=by simp[pathS];omega
     have hRx:=HRx.out
     rw[everyE,if_pos hpf] at hRx
     subst hRx
     rw[hv]
     have h2:(200:Int) < (x.path.length:Int):=by omega
     go_wp2_with fail
     go_ret
     exact⟨rfl,HG.out.trans (HC3.out.grew _),k',D',HMj.out.calm HC3.out⟩
    ·have hpt:pathS x.path=true:=by simp[pathS,hv];omega
     rw[hv]
     have h2:¬(200:Int) < (x.path.length:Int):=by omega
     by_cases hb0:bf=[]
     ·subst hb0
      have hno:¬(([]:Str)≠[]∧0≤(cmpP [] x.path).1):=fun h=>h.1 rfl
      have hatW:=hat3
      have lbW:=lb3
      have hmW:=HMj.out.calm (HC3.out)
      have hgW:=HG.out.trans ((HC3.out).grew (some M2))
      go_wp2_with fail
      refine (oneEdit_c B M1 M2 M3 num cl tx (some ⟨b,o,none⟩) n c k' D' w3 (HE.out w3 k' D' hgW hmW) x hp hf).mono ?_
      rintro e w6 ⟨rfl,hc6⟩
      have hat6:=hatW.calm lbW hc6
      have hm6:=hmW.calm hc6
      have hg6:=hgW.trans (hc6.grew (some M2))
      by_cases ho:oneE x≠0
      ·have hRx:=HRx.out
       rw[everyE,if_neg (by rw[hpt];decide),if_neg hno,if_pos ho] at hRx
       have ho':(oneE x == 0)=false:=by simpa using ho
       have HGG:=Lib.hid hg6
       have HMM:=Lib.hid hm6
       clear hat6 hm6 hg6 hmW hgW hc6 hatW
       go_wp2_with fail
       go_ret
       exact⟨rfl,HGG.out,k',D',HMM.out⟩
      ·have ho0:oneE x=0:=by simpa using ho
       rw[ho0]
       have HRy:Hid (everyE x.path (l.drop (j+1))=R):=by
        have hRx:=HRx.out
        rw[everyE,if_neg (by rw[hpt];decide),if_neg hno,if_neg ho] at hRx
        exact hRx
       have hk8:=(HE.out w6 k' D' hg6 hm6).z.at_ 8 _ rfl
       have lB6:=(HE.out w6 k' D' hg6 hm6).z.lt
       have d0:=hat6.c0
       have d1:=hat6.c1
       have d2:=hat6.c2
       have d3:=hat6.c3
       have d4:=hat6.c4
       have d5:=hat6.c5
       have d6:=hat6.c6
       have d7:=hat6.c7
       have d8:=hat6.c8
       have d9:=hat6.c9
       have d10:=hat6.c10
       have d11:=hat6.c11
       have lb6:=Nat.lt_of_lt_of_le lbW hc6.size
       have hkM:=HK.out
       obtain⟨w7,hrun7,hown7,hg7⟩:=World.ownsMap.update (World.ownsMap.drew hm6) keyS_law Tryz.underlying229 (show k' < maxLen by unfold maxLen;omega) (keyS_of x.path hp) (show heldR (.agg #[.string (bs x.path),.int .i64 x.act,.int .i64 x.tb,.bool x.tk,.bool x.tx,.bool x.te,.int .u64 x.sum,.int .i64 x.size,.int .i64 x.base,.string (bs x.frm),.int .i64 x.fn,.int .i64 x.fence])=some (.held _,[]) from rfl)
       have d0':=EdAt.grew (w:=w6.drew) ⟨d0,d1,d2,d3,d4,d5,d6,d7,d8,d9,d10,d11⟩ lb6 hg7 (by have:=HMj.out.lt;omega)
       have e0:=d0'.c0
       have HGG:Hid (w.grownBy w7 (some M2)):=(hg6.trans (Calm.grew (Below.drew (Calm.refl w6)) (some M2))).trans hg7
       have HMM:=Lib.hid hown7
       clear hat6 hm6 hg6 hmW hgW hc6 hatW hown7 hg7 d0'
       go_wp2_with fail
       go_region
       all_goals
        go_wp2_with fail
        go_roundw
        case rel=>exact⟨j+1,x.path,k'+1,_,by omega,by go_num,rfl,hp,by omega,HRy,HGG,HMM⟩
        case measure=>simp[intOf];omega
     ·have hne:bs bf≠⟨#[]⟩:=fun e=>hb0 (List.length_eq_zero_iff.1 (by have:=congrArg ByteArray.size e;rw[bs_size] at this;exact this))
      have hie:List.isEmpty bf=false:=by cases bf with | nil=>exact absurd rfl hb0 | cons _ _=>rfl
      go_wp2_with fail
      refine (hcmp2_c bf x.path w3 (by omega) (by omega)).mono ?_
      rintro e w5 ⟨rfl,hc5⟩
      have hatW:=hat3.calm lb3 hc5
      have lbW:=Nat.lt_of_lt_of_le lb3 hc5.size
      have HC5:=Lib.hid (HC3.out.trans hc5)
      have q0:=hatW.c0
      have q1:=hatW.c1
      have q2:=hatW.c2
      have q3:=hatW.c3
      have q4:=hatW.c4
      have q5:=hatW.c5
      have q6:=hatW.c6
      have q7:=hatW.c7
      have q8:=hatW.c8
      have q9:=hatW.c9
      have q10:=hatW.c10
      have q11:=hatW.c11
      clear hc5
      by_cases hcm:0≤(cmpP bf x.path).1
      ·have hRx:=HRx.out
       rw[everyE,if_neg (by rw[hpt];decide),if_pos ⟨hb0,hcm⟩] at hRx
       subst hRx
       clear hatW
       go_wp2_with fail
       go_ret
       exact⟨rfl,HG.out.trans (HC5.out.grew _),k',D',HMj.out.calm HC5.out⟩
      ·have hno:¬(bf≠[]∧0≤(cmpP bf x.path).1):=fun h=>hcm h.2
       have hmW:=HMj.out.calm (HC5.out)
       have hgW:=HG.out.trans ((HC5.out).grew (some M2))
       go_wp2_with fail
       refine (oneEdit_c B M1 M2 M3 num cl tx (some ⟨b,o,none⟩) n c k' D' w5 (HE.out w5 k' D' hgW hmW) x hp hf).mono ?_
       rintro e w6 ⟨rfl,hc6⟩
       have hat6:=hatW.calm lbW hc6
       have hm6:=hmW.calm hc6
       have hg6:=hgW.trans (hc6.grew (some M2))
       by_cases ho:oneE x≠0
       ·have hRx:=HRx.out
        rw[everyE,if_neg (by rw[hpt];decide),if_neg hno,if_pos ho] at hRx
        have ho':(oneE x == 0)=false:=by simpa using ho
        have HGG:=Lib.hid hg6
        have HMM:=Lib.hid hm6
        clear hat6 hm6 hg6 hmW hgW hc6 hatW
        go_wp2_with fail
        go_ret
        exact⟨rfl,HGG.out,k',D',HMM.out⟩
       ·have ho0:oneE x=0:=by simpa using ho
        rw[ho0]
        have HRy:Hid (everyE x.path (l.drop (j+1))=R):=by
         have hRx:=HRx.out
         rw[everyE,if_neg (by rw[hpt];decide),if_neg hno,if_neg ho] at hRx
         exact hRx
        have hk8:=(HE.out w6 k' D' hg6 hm6).z.at_ 8 _ rfl
        have lB6:=(HE.out w6 k' D' hg6 hm6).z.lt
        have d0:=hat6.c0
        have d1:=hat6.c1
        have d2:=hat6.c2
        have d3:=hat6.c3
        have d4:=hat6.c4
        have d5:=hat6.c5
        have d6:=hat6.c6
        have d7:=hat6.c7
        have d8:=hat6.c8
        have d9:=hat6.c9
        have d10:=hat6.c10
        have d11:=hat6.c11
        have lb6:=Nat.lt_of_lt_of_le lbW hc6.size
        have hkM:=HK.out
        obtain⟨w7,hrun7,hown7,hg7⟩:=World.ownsMap.update (World.ownsMap.drew hm6) keyS_law Tryz.underlying229 (show k' < maxLen by unfold maxLen;omega) (keyS_of x.path hp) (show heldR (.agg #[.string (bs x.path),.int .i64 x.act,.int .i64 x.tb,.bool x.tk,.bool x.tx,.bool x.te,.int .u64 x.sum,.int .i64 x.size,.int .i64 x.base,.string (bs x.frm),.int .i64 x.fn,.int .i64 x.fence])=some (.held _,[]) from rfl)
        have d0':=EdAt.grew (w:=w6.drew) ⟨d0,d1,d2,d3,d4,d5,d6,d7,d8,d9,d10,d11⟩ lb6 hg7 (by have:=HMj.out.lt;omega)
        have e0:=d0'.c0
        have HGG:Hid (w.grownBy w7 (some M2)):=(hg6.trans (Calm.grew (Below.drew (Calm.refl w6)) (some M2))).trans hg7
        have HMM:=Lib.hid hown7
        clear hat6 hm6 hg6 hmW hgW hc6 hatW hown7 hg7 d0'
        go_wp2_with fail
        go_region
        all_goals
         go_wp2_with fail
         go_roundw
         case rel=>exact⟨j+1,x.path,k'+1,_,by omega,by go_num,rfl,hp,by omega,HRy,HGG,HMM⟩
         case measure=>simp[intOf];omega
   ·have hv0:validS x.path=false:=by simpa using hv
    have hpf:pathS x.path=false:=by simp[pathS,hv0]
    have hRx:=HRx.out
    rw[everyE,if_pos hpf] at hRx
    subst hRx
    rw[hv0]
    go_wp2_with fail
    go_ret
    exact⟨rfl,HG.out.trans (HC3.out.grew _),k',D',HMj.out.calm HC3.out⟩
  ·obtain rfl:j=n:=by omega
   have hR0:R=0:=by
    have:=HRj.out
    rw[List.drop_eq_nil_of_le (by rw[HL.out];exact Nat.le_refl _)] at this
    exact this.symm
   subst hR0
   go_wp2_with fail
   go_ret
   exact⟨rfl,HG.out,k',D',HMj.out⟩
end Go.Proofs.YtcofdlipapnohaaGreatDoor
