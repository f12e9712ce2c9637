/- Walks: the two Checks of a pattern whose parts may be of any size (written by program out of WalkC and WalkD: gen_checkg.py). -/
import Derived.Deep.QuietTactic
import Derived.BigQuiet
import Derived.Test.YtcofdlipapnohaaGreatDoorZWalkA
set_option linter.unusedVariables false
set_option linter.unusedSimpArgs false
namespace Go.Proofs.YtcofdlipapnohaaGreatDoor
open Go Go.RowKit Sy
theorem StrsR.get {w:World} {A:Option Addr} {ls:List Str} (h:StrsR w A ls) {k:Nat} (hk:k < ls.length):∃b o l,A=some ⟨b,o,none⟩∧b < w.heap.size∧ls[k]?=some l∧l.length≤16384∧w.cell? ⟨b,o+k,none⟩=some (.string (bs l)):=by
 obtain⟨b,o,hA,hb,hc⟩:=h.at_ (by omega)
 exact⟨b,o,ls[k],hA,hb,List.getElem?_eq_getElem hk,h.each _ (List.getElem_mem hk),hc k _ (List.getElem?_eq_getElem hk)⟩
theorem good_of {ls:List Str} {k:Nat} {l:Str} (hl:ls[k]?=some l) (h:goodTo ls k=true) (hg:good k l=true):goodTo ls (k+1)=true:=by
 rw[goodTo_succ,h,List.getD_eq_getElem?_getD,hl]
 exact hg
set_option maxHeartbeats 1000000 in
theorem pcheck_c (p:Pat) (A:Option Addr) (c:Nat) (w:World) (hr:StrsR w A p.parts) (_hnc:p.parts.length≤c) (_hc47:c≤9223372036854775807):Calls Tryz.prog 197 #[.agg #[.slice A p.parts.length c,.bool p.rest]] w fun e w'=>e=.returned (.int .i64 (patErr p))∧Calm w w':=by
 have hlen:=hr.len
 obtain⟨n,hn⟩:∃n,p.parts.length=n:=⟨_,rfl⟩
 obtain⟨re,hre⟩:∃re,p.rest=re:=⟨_,rfl⟩
 have Hn:=Lib.hid hn
 have Hre:=Lib.hid hre
 rw[hn] at hlen
 rw[hn,hre]
 have HR:=Lib.hid hr
 clear hn hre hr
 by_cases h0:n=0
 ·have hv:patErr p=30:=by simp[patErr,Hn.out,h0]
  rw[hv,h0]
  clear hv
  go_enter Tryz.func197,Tryz.ntmps197
  go_wp2
  go_ret
  exact⟨rfl,(Calm.refl w).alloc _⟩
 ·by_cases h1:n=1∧re=false
  ·have hv:patErr p=30:=by simp[patErr,Hn.out,Hre.out,h1.1,h1.2]
   rw[hv]
   clear hv
   obtain⟨rfl,rfl⟩:=h1
   go_enter Tryz.func197,Tryz.ntmps197
   go_wp2
   go_ret
   exact⟨rfl,(Calm.refl w).alloc _⟩
  ·have H1:Hid (¬(n=1∧re=false)):=h1
   have hb0:((n:Int) == 0)=false:=by simp;omega
   have hb1:((n:Int) == 1)=false∨(((n:Int) == 1)=true∧re=true):=by
    by_cases e:n=1
    ·right
     refine⟨by simp;omega,?_⟩
     rcases re with _ | _
     ·exact absurd ⟨e,rfl⟩ h1
     ·rfl
    ·left;simp;omega
   clear h1
   have core:∀w1:World,Calm w w1→(∀k,k < n→∃b o l,A=some ⟨b,o,none⟩∧p.parts[k]?=some l∧l.length≤16384∧w1.cell? ⟨b,o+k,none⟩=some (.string (bs l))):=fun w1 hc k hk=>by
    obtain⟨b,o,l,h1,_,h2,h3,h4⟩:=(HR.out.calm hc).get (k:=k) (by rw[Hn.out];exact hk)
    exact⟨b,o,l,h1,h2,h3,h4⟩
   have Hcore:=Lib.hid (core _ ((Calm.refl w).alloc (.cells #[.slice A n c,.bool re] 65)))
   clear core HR
   have hgo:n≤16384:=hlen
   go_enter Tryz.func197,Tryz.ntmps197
   rcases hb1 with hb1 | ⟨hb1,rfl⟩
   all_goals
    go_wp2_with fail
    go_loop [23] (fun i=>∃k:Nat,k≤n∧i=.int .i64 k∧Hid (goodTo p.parts k=true)) (fun i=>n - (intOf i).toNat)
    case atStart=>exact⟨0,Nat.zero_le _,rfl,rfl⟩
    case round=>
     obtain⟨k,hk,rfl,hh⟩:=hrel
     by_cases hlt:k < n
     ·obtain⟨b,o,l,rfl,hl,hll,hcell⟩:=Hcore.out k hlt
      have Hl:=Lib.hid hl
      clear hl Hcore
      rcases form_cases l with hf | hf | hf
      ·have hg:Hid (good k l=true):=by show good k l=true;unfold good;split <;> simp[hf.2,partOk]
       have hf1:=hf.1
       clear hf
       go_wp2_with (go_at_call 232;refine (form_v _ _ _ (by omega) hf1).mono ?_;rintro e w' ⟨rfl,rfl⟩)
       go_round
       case rel=>exact⟨k+1,by omega,by go_num,good_of Hl.out hh.out hg.out⟩
       case measure=>simp[intOf];omega
      ·have hf1:=hf.1
       by_cases hk0:k=0
       ·have hv:Hid (patErr p=30):=patErr_bad Hl.out (by show good k l=false;simp[good,hk0,hf.2])
        have hkb:((k:Int) == 0)=true:=by simp;omega
        clear hf hk0
        go_wp2_with (go_at_call 232;refine (form_v _ _ _ (by omega) hf1).mono ?_;rintro e w' ⟨rfl,rfl⟩)
        go_ret
        exact⟨ret_int hv.out.symm,(Calm.refl w).alloc _⟩
       ·have hg:Hid (good k l=true):=by show good k l=true;simp[good,hk0,hf.2,partOk]
        have hkb:((k:Int) == 0)=false:=by simp;omega
        clear hf hk0
        go_wp2_with (go_at_call 232;refine (form_v _ _ _ (by omega) hf1).mono ?_;rintro e w' ⟨rfl,rfl⟩)
        go_round
        case rel=>exact⟨k+1,by omega,by go_num,good_of Hl.out hh.out hg.out⟩
        case measure=>simp[intOf];omega
      ·have hf1:=hf.1
       have hv:Hid (patErr p=30):=patErr_bad Hl.out (by show good k l=false;unfold good;split <;> simp[hf.2,partOk])
       clear hf
       go_wp2_with (go_at_call 232;refine (form_v _ _ _ (by omega) hf1).mono ?_;rintro e w' ⟨rfl,rfl⟩)
       go_ret
       exact⟨ret_int hv.out.symm,(Calm.refl w).alloc _⟩
     ·have hkn:Hid (goodTo p.parts n=true):=by
       have:k=n:=by omega
       rw[←this];exact hh.out
      clear Hcore
      have hv:Hid (patErr p=if 12 < n then 31 else 0):=by
       show patErr p=_
       rw[patErr_good (by rw[Hn.out];exact h0) (by rw[Hn.out,Hre.out];exact H1.out) (by rw[Hn.out];exact hkn.out),Hn.out]
      by_cases h12:12 < n
      ·go_wp2
       go_ret
       exact⟨ret_int (by rw[hv.out,if_pos h12]),(Calm.refl w).alloc _⟩
      ·go_wp2
       go_ret
       exact⟨ret_int (by rw[hv.out,if_neg h12]),(Calm.refl w).alloc _⟩
theorem bs_tail (l:Str) (n:Nat) (hn:n=l.length):(bs l).extract 1 n=bs l.tail:=by
 subst hn
 rw[ByteArray.ext_iff,ByteArray.data_extract]
 cases l <;> simp[bs]
def capt (part c:Str):Str:=if isStar part then Lib.trimSuffix c part.tail else []
theorem cutSuffix_c (l m:Str) (w:World) (hl:l.length≤140737488355328):Calls Tryz.prog 243 #[.string (bs l),.string (bs m)] w fun e w'=>e=.returned (.tuple #[.string (bs (Lib.trimSuffix l m)),.bool (endsWith l m)])∧w=w':=
 (Tryz.strings_CutSuffix (bs l) (bs m) w (by rw[bs_size];omega)).mono fun _ _ ⟨he,hw⟩=>⟨by rw[he,bs_toList,bs_toList];rfl,hw.symm⟩
theorem hasSuffix_c (l m:Str) (w:World) (hl:l.length≤140737488355328):Calls Tryz.prog 251 #[.string (bs l),.string (bs m)] w fun e w'=>e=.returned (.bool (endsWith l m))∧w=w':=
 (Tryz.strings_HasSuffix (bs l) (bs m) w (by rw[bs_size];omega)).mono fun _ _ ⟨he,hw⟩=>⟨by rw[he,bs_toList,bs_toList];rfl,hw.symm⟩
theorem isStar_v (l:List UInt8) (b:Bool) (w:World) (h:isStar l=b):Calls Tryz.prog 220 #[.string (bs l)] w fun e w'=>e=.returned (.bool b)∧w=w':=h ▸ isStar_c l w
theorem trim_empty {c t:Str} (h:endsWith c t=true):(Lib.trimSuffix c t=[])↔¬t.length < c.length:=by
 have h1:t.length≤c.length:=(endsWith_iff.1 h).length_le
 have:Lib.trimSuffix c t=c.take (c.length - t.length):=by unfold Lib.trimSuffix;exact if_pos h
 rw[this,List.take_eq_nil_iff]
 constructor
 ·rintro (h2 | h2)
  ·omega
  ·subst h2;simp
 ·intro h2;left;omega
set_option maxHeartbeats 400000 in
theorem mpart_u (part c:Str) (w:World) (hp:part.length≤2097152) (hc:c.length≤2097152):Calls Tryz.prog 219 #[.string (bs part),.string (bs c)] w fun e w'=>e=.returned (.tuple #[.string (bs (capt part c)),.bool (mtch part c)])∧w=w':=by
 rcases hs:isStar part with _ | _
 ·have hv:Hid ((capt part c,mtch part c)=([],part == c)):=by show (_,_)=_;simp[capt,mtch,hs]
  go_enter Tryz.func219,Tryz.ntmps219
  go_wp2_with (go_at_call 220;refine (isStar_v _ _ _ hs).mono ?_;rintro e w' ⟨rfl,rfl⟩)
  go_ret2
  have h1:=congrArg Prod.fst hv.out
  have h2:=congrArg Prod.snd hv.out
  dsimp only at h1 h2
  refine⟨?_,rfl⟩
  rw[h1,h2]
  rfl
 ·have hpos:1≤part.length:=by
   cases part with
   |nil=>cases hs
   |cons a t=>simp
  rcases he:endsWith c part.tail with _ | _
  ·have hv:Hid ((capt part c,mtch part c)=(Lib.trimSuffix c part.tail,false)):=by show (_,_)=_;simp[capt,mtch,hs,he]
   have hcut:=cutSuffix_c c part.tail w (by omega)
   rw[he] at hcut
   have hx:=bs_tail part part.length rfl
   go_enter Tryz.func219,Tryz.ntmps219
   go_wp2_with (first | (go_at_call 220;refine (isStar_v _ _ _ hs).mono ?_;rintro e w' ⟨rfl,rfl⟩) | (go_at_call 243;refine hcut.mono ?_;rintro e w' ⟨rfl,rfl⟩))
   go_ret2
   have h1:=congrArg Prod.fst hv.out
   have h2:=congrArg Prod.snd hv.out
   dsimp only at h1 h2
   refine⟨?_,rfl⟩
   rw[h1,h2]
   rfl
  ·have hcut:=cutSuffix_c c part.tail w (by omega)
   rw[he] at hcut
   have hx:=bs_tail part part.length rfl
   by_cases hlt:part.tail.length < c.length
   ·have hv:Hid ((capt part c,mtch part c)=(Lib.trimSuffix c part.tail,true)):=by show (_,_)=_;simp[capt,mtch,hs,he];simpa using hlt
    have hne:Lib.trimSuffix c part.tail≠[]:=fun e=>(trim_empty he).1 e hlt
    have hne2:(Lib.trimSuffix c part.tail).isEmpty=false:=by simpa using hne
    clear hlt
    go_enter Tryz.func219,Tryz.ntmps219
    go_wp2_with (first | (go_at_call 220;refine (isStar_v _ _ _ hs).mono ?_;rintro e w' ⟨rfl,rfl⟩) | (go_at_call 243;refine hcut.mono ?_;rintro e w' ⟨rfl,rfl⟩))
    go_ret2
    have h1:=congrArg Prod.fst hv.out
    have h2:=congrArg Prod.snd hv.out
    dsimp only at h1 h2
    refine⟨?_,rfl⟩
    rw[h1,h2]
    rfl
   ·have hv:Hid ((capt part c,mtch part c)=([],false)):=by
     show (_,_)=_
     have e:=(trim_empty he).2 hlt
     simp only[capt,mtch,hs,if_true,he,Bool.true_and,decide_eq_false hlt,e]
    have hne:Lib.trimSuffix c part.tail=[]:=(trim_empty he).2 hlt
    rw[hne] at hcut
    clear hlt hne
    go_enter Tryz.func219,Tryz.ntmps219
    go_wp2_with (first | (go_at_call 220;refine (isStar_v _ _ _ hs).mono ?_;rintro e w' ⟨rfl,rfl⟩) | (go_at_call 243;refine hcut.mono ?_;rintro e w' ⟨rfl,rfl⟩))
    go_ret2
    have h1:=congrArg Prod.fst hv.out
    have h2:=congrArg Prod.snd hv.out
    dsimp only at h1 h2
    refine⟨?_,rfl⟩
    rw[h1,h2]
    rfl
theorem mpart_c (part c:Str) (w:World) (hp:part.length≤16384) (hc:c.length≤20000):Calls Tryz.prog 219 #[.string (bs part),.string (bs c)] w fun e w'=>e=.returned (.tuple #[.string (bs (capt part c)),.bool (mtch part c)])∧w=w':=mpart_u part c w (by omega) (by omega)
theorem quietL {P:Program} {f:FuncId} {args:Array Value} {w:World} {n:Nat} {v:Value} (h:Calls P f args (w.drewN n) fun e w'=>e=.returned v∧w.drewN n=w'):Calls P f args (w.drewN n) fun e w''=>e=.returned v∧∃m,w''=w.drewN m:=
 h.mono fun _ _ ⟨he,hw⟩=>⟨he,n,hw.symm⟩
set_option maxHeartbeats 400000 in
theorem pwith_u (a b:Str) (w:World) (ha:a.length≤2097152) (hb:b.length≤2097152):Calls Tryz.prog 233 #[.string (bs a),.string (bs b)] w fun e w'=>e=.returned (.bool (inside a b))∧Calm w w':=by
 by_cases hab:a=b
 ·subst hab
  have hv:inside a a=true:=by simp[inside]
  rw[hv]
  clear hv
  go_enter Tryz.func233,Tryz.ntmps233
  go_wp2
  go_ret
  exact⟨rfl,Calm.refl w⟩
 ·have hne:(a == b)=false:=by simpa using hab
  rcases hsb:isStar b with _ | _
  ·have hv:inside a b=false:=by simp[inside,hne,hsb]
   rw[hv]
   clear hv hab
   go_enter Tryz.func233,Tryz.ntmps233
   go_wp2_with (go_at_call 220;refine (isStar_v _ _ _ hsb).mono ?_;rintro e w' ⟨rfl,rfl⟩)
   go_ret
   exact⟨rfl,Calm.refl w⟩
  ·rcases hsa:isStar a with _ | _
   ·have hv:inside a b=mtch b a:=by simp[inside,hne,hsa,hsb]
    rw[hv]
    clear hv hab
    have hm:=mpart_u b a w hb (by omega)
    generalize mtch b a=r at hm ⊢
    go_enter Tryz.func233,Tryz.ntmps233
    go_wp2_with (first | (go_at_call_of 220 (bs b);refine (isStar_v _ _ _ hsb).mono ?_;rintro e w' ⟨rfl,rfl⟩) | (go_at_call_of 220 (bs a);refine (isStar_v _ _ _ hsa).mono ?_;rintro e w' ⟨rfl,rfl⟩) | (go_at_call 219;refine hm.mono ?_;rintro e w' ⟨rfl,rfl⟩))
    go_ret
    exact⟨rfl,Calm.refl w⟩
   ·have hv:inside a b=endsWith a.tail b.tail:=by simp[inside,hne,hsa,hsb]
    rw[hv]
    clear hv hab
    have hx:=bs_tail a a.length rfl
    have hy:=bs_tail b b.length rfl
    have hm:=fun W=>hasSuffix_c a.tail b.tail W (by simp;omega)
    have hp1:1≤a.length:=by
     cases a with
     |nil=>cases hsa
     |cons x t=>simp
    have hp2:1≤b.length:=by
     cases b with
     |nil=>cases hsb
     |cons x t=>simp
    generalize endsWith a.tail b.tail=r at hm ⊢
    go_enter Tryz.func233,Tryz.ntmps233
    go_wp2_with (first | (go_at_call_of 220 (bs b);refine (isStar_v _ _ _ hsb).mono ?_;rintro e w' ⟨rfl,rfl⟩) | (go_at_call_of 220 (bs a);refine (isStar_v _ _ _ hsa).mono ?_;rintro e w' ⟨rfl,rfl⟩))
    go_quiet ((go_at_call 251;exact quietL (hm _)))
    go_wp2
    go_ret
    exact⟨rfl,(Calm.refl w).drewN _⟩
theorem pwith_c (a b:Str) (w:World) (ha:a.length≤16384) (hb:b.length≤16384):Calls Tryz.prog 233 #[.string (bs a),.string (bs b)] w fun e w'=>e=.returned (.bool (inside a b))∧Calm w w':=pwith_u a b w (by omega) (by omega)
set_option maxHeartbeats 1000000 in
theorem pcheckG_c (p:Pat) (A:Option Addr) (c:Nat) (w:World) (hr:StrsG w A p.parts) (_hnc:p.parts.length≤c) (_hc47:c≤9223372036854775807):Calls Tryz.prog 197 #[.agg #[.slice A p.parts.length c,.bool p.rest]] w fun e w'=>e=.returned (.int .i64 (patErr p))∧Calm w w':=by
 have hlen:=hr.len
 obtain⟨n,hn⟩:∃n,p.parts.length=n:=⟨_,rfl⟩
 obtain⟨re,hre⟩:∃re,p.rest=re:=⟨_,rfl⟩
 have Hn:=Lib.hid hn
 have Hre:=Lib.hid hre
 rw[hn] at hlen
 rw[hn,hre]
 have HR:=Lib.hid hr
 clear hn hre hr
 by_cases h0:n=0
 ·have hv:patErr p=30:=by simp[patErr,Hn.out,h0]
  rw[hv,h0]
  clear hv
  go_enter Tryz.func197,Tryz.ntmps197
  go_wp2
  go_ret
  exact⟨rfl,(Calm.refl w).alloc _⟩
 ·by_cases h1:n=1∧re=false
  ·have hv:patErr p=30:=by simp[patErr,Hn.out,Hre.out,h1.1,h1.2]
   rw[hv]
   clear hv
   obtain⟨rfl,rfl⟩:=h1
   go_enter Tryz.func197,Tryz.ntmps197
   go_wp2
   go_ret
   exact⟨rfl,(Calm.refl w).alloc _⟩
  ·have H1:Hid (¬(n=1∧re=false)):=h1
   have hb0:((n:Int) == 0)=false:=by simp;omega
   have hb1:((n:Int) == 1)=false∨(((n:Int) == 1)=true∧re=true):=by
    by_cases e:n=1
    ·right
     refine⟨by simp;omega,?_⟩
     rcases re with _ | _
     ·exact absurd ⟨e,rfl⟩ h1
     ·rfl
    ·left;simp;omega
   clear h1
   have core:∀w1:World,Calm w w1→(∀k,k < n→∃b o l,A=some ⟨b,o,none⟩∧p.parts[k]?=some l∧l.length≤140737488355328∧w1.cell? ⟨b,o+k,none⟩=some (.string (bs l))):=fun w1 hc k hk=>by
    obtain⟨b,o,l,h1,_,h2,h3,h4⟩:=(HR.out.calm hc).get (k:=k) (by rw[Hn.out];exact hk)
    exact⟨b,o,l,h1,h2,h3,h4⟩
   have Hcore:=Lib.hid (core _ ((Calm.refl w).alloc (.cells #[.slice A n c,.bool re] 65)))
   clear core HR
   have hgo:n≤140737488355328:=hlen
   go_enter Tryz.func197,Tryz.ntmps197
   rcases hb1 with hb1 | ⟨hb1,rfl⟩
   all_goals
    go_wp2_with fail
    go_loop [23] (fun i=>∃k:Nat,k≤n∧i=.int .i64 k∧Hid (goodTo p.parts k=true)) (fun i=>n - (intOf i).toNat)
    case atStart=>exact⟨0,Nat.zero_le _,rfl,rfl⟩
    case round=>
     obtain⟨k,hk,rfl,hh⟩:=hrel
     by_cases hlt:k < n
     ·obtain⟨b,o,l,rfl,hl,hll,hcell⟩:=Hcore.out k hlt
      have Hl:=Lib.hid hl
      clear hl Hcore
      rcases form_cases l with hf | hf | hf
      ·have hg:Hid (good k l=true):=by show good k l=true;unfold good;split <;> simp[hf.2,partOk]
       have hf1:=hf.1
       clear hf
       go_wp2_with (go_at_call 232;refine (form_v _ _ _ (by omega) hf1).mono ?_;rintro e w' ⟨rfl,rfl⟩)
       go_round
       case rel=>exact⟨k+1,by omega,by go_num,good_of Hl.out hh.out hg.out⟩
       case measure=>simp[intOf];omega
      ·have hf1:=hf.1
       by_cases hk0:k=0
       ·have hv:Hid (patErr p=30):=patErr_bad Hl.out (by show good k l=false;simp[good,hk0,hf.2])
        have hkb:((k:Int) == 0)=true:=by simp;omega
        clear hf hk0
        go_wp2_with (go_at_call 232;refine (form_v _ _ _ (by omega) hf1).mono ?_;rintro e w' ⟨rfl,rfl⟩)
        go_ret
        exact⟨ret_int hv.out.symm,(Calm.refl w).alloc _⟩
       ·have hg:Hid (good k l=true):=by show good k l=true;simp[good,hk0,hf.2,partOk]
        have hkb:((k:Int) == 0)=false:=by simp;omega
        clear hf hk0
        go_wp2_with (go_at_call 232;refine (form_v _ _ _ (by omega) hf1).mono ?_;rintro e w' ⟨rfl,rfl⟩)
        go_round
        case rel=>exact⟨k+1,by omega,by go_num,good_of Hl.out hh.out hg.out⟩
        case measure=>simp[intOf];omega
      ·have hf1:=hf.1
       have hv:Hid (patErr p=30):=patErr_bad Hl.out (by show good k l=false;unfold good;split <;> simp[hf.2,partOk])
       clear hf
       go_wp2_with (go_at_call 232;refine (form_v _ _ _ (by omega) hf1).mono ?_;rintro e w' ⟨rfl,rfl⟩)
       go_ret
       exact⟨ret_int hv.out.symm,(Calm.refl w).alloc _⟩
     ·have hkn:Hid (goodTo p.parts n=true):=by
       have:k=n:=by omega
       rw[←this];exact hh.out
      clear Hcore
      have hv:Hid (patErr p=if 12 < n then 31 else 0):=by
       show patErr p=_
       rw[patErr_good (by rw[Hn.out];exact h0) (by rw[Hn.out,Hre.out];exact H1.out) (by rw[Hn.out];exact hkn.out),Hn.out]
      by_cases h12:12 < n
      ·go_wp2
       go_ret
       exact⟨ret_int (by rw[hv.out,if_pos h12]),(Calm.refl w).alloc _⟩
      ·go_wp2
       go_ret
       exact⟨ret_int (by rw[hv.out,if_neg h12]),(Calm.refl w).alloc _⟩
end Go.Proofs.YtcofdlipapnohaaGreatDoor
