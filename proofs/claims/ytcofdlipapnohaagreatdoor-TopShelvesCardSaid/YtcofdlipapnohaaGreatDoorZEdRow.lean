/- Edits in memory: rows of twelve cells. -/
import Derived.Test.YtcofdlipapnohaaGreatDoorZWalkA
import Derived.Test.YtcofdlipapnohaaGreatDoorZRowX
set_option linter.unusedVariables false
set_option linter.unusedSimpArgs false
namespace Go.Proofs.YtcofdlipapnohaaGreatDoor
open Go Go.RowKit Sy
def vgo:Str→Str→Nat→Bool
 |cur,[],n=>comp cur && decide (2≤n+1)
 |cur,c :: r,n=>if c=47 then comp cur && vgo [] r (n+1) else vgo (cur++[c]) r n
def validS (s:Str):Bool:=Lib.hasPrefix s [47,47] && vgo [] (s.drop 2) 0
theorem bs_mid (p:Str) (b k:Nat):(bs p).extract b k=bs ((p.drop b).take (k - b)):=by
 apply ByteArray.ext
 simp only[bs,ByteArray.data_extract]
 apply Array.ext'
 simp only[Array.toList_extract,List.extract_eq_take_drop]
theorem prefix_two {s:Str} (h:Lib.hasPrefix s [47,47]=true):2≤s.length:=by
 have:[47,47] <+: s:=List.isPrefixOf_iff_prefix.1 h
 have:=this.length_le
 simpa using this
theorem mid_snoc {s:Str} {b k:Nat} (hb:b≤k) (hk:k < s.length):(s.drop b).take (k - b)++[s[k]]=(s.drop b).take (k+1 - b):=by
 have e:k+1 - b=(k - b)+1:=by omega
 rw[e,List.take_succ_eq_append_getElem (by rw[List.length_drop];omega)]
 congr 2
 rw[List.getElem_drop]
 congr 1
 omega
set_option maxHeartbeats 4000000 in
theorem pvalid_c (s:Str) (w:World) (hl:s.length≤140737488355000):Calls Tryz.prog 122 #[.string (bs s)] w fun e w'=>e=.returned (.bool (validS s))∧w=w':=by
 obtain⟨p,hp⟩:∃p,Lib.hasPrefix s [47,47]=p:=⟨_,rfl⟩
 have hpre:Calls Tryz.prog 161 #[.string (bs s),.string ⟨#[47,47]⟩] w fun e w'=>e=.returned (.bool p)∧w=w':=
  (Tryz.strings_HasPrefix (bs s) ⟨#[47,47]⟩ w).mono fun _ _ ⟨he,hw⟩=>⟨by rw[he,bs_toList,←hp],hw.symm⟩
 obtain⟨R,hR⟩:∃R,validS s=R:=⟨_,rfl⟩
 rw[hR]
 have hsz:=bs_size s
 cases p with
 |false=>
  obtain rfl:false=R:=by rw[←hR,validS,hp];rfl
  clear hp hR
  go_enter Tryz.func122,Tryz.ntmps122
  go_wp2_with (go_at_call 161;refine hpre.mono ?_;rintro e w' ⟨rfl,rfl⟩)
  go_ret
  exact⟨rfl,rfl⟩
 |true=>
  have h2:=prefix_two hp
  have HR:Hid (vgo [] (s.drop 2) 0=R):=by
   show _=_
   rw[←hR,validS,hp,Bool.true_and]
  obtain⟨n,hn⟩:∃n,s.length=n:=⟨_,rfl⟩
  rw[hn] at hsz h2 hl
  have HN:=Lib.hid hn
  clear hp hR hn
  go_enter Tryz.func122,Tryz.ntmps122
  go_wp2_with (go_at_call 161;refine hpre.mono ?_;rintro e w' ⟨rfl,rfl⟩)
  go_loop [3,4,5] (fun v u i=>∃cnt b k:Nat,v=.int .i64 cnt∧u=.int .i64 b∧i=.int .i64 k∧k≤n+1∧b≤k∧cnt≤k∧Hid ((k≤n→vgo ((s.drop b).take (k - b)) (s.drop k) cnt=R)∧(n < k→decide (2≤cnt)=R))) (fun _ _ i=>n+1 - (intOf i).toNat)
  case atStart=>exact⟨0,2,2,rfl,rfl,rfl,by omega,Nat.le_refl _,by omega,fun _=>by simpa using HR.out,fun h=>by omega⟩
  case round=>
   obtain⟨cnt,b,k,rfl,rfl,rfl,hk,hbk,hck,HI⟩:=hrel
   by_cases hkn:k≤n
   ·have hk1:(k:Int)≤(n:Int):=by omega
    obtain⟨y,hy⟩:∃y,comp ((s.drop b).take (k - b))=y:=⟨_,rfl⟩
    have KC:Hid (Calls Tryz.prog 132 #[.string (bs ((s.drop b).take (k - b)))] w fun e w'=>e=.returned (.bool y)∧w=w'):=
     comp_v _ y w (by have h1:=List.length_take_le (k - b) (s.drop b);omega) hy
    have HEx:=Lib.hid (bs_mid s b k)
    have hb0:(0:Int)≤(b:Int):=by omega
    have hb1:(b:Int)≤(k:Int):=by omega
    by_cases hlt:k < n
    ·have hlt1:(k:Int) < (n:Int):=by omega
     obtain⟨c,hc⟩:∃c,s[k]'(by rw[HN.out];exact hlt)=c:=⟨_,rfl⟩
     have hkl:k < s.length:=by rw[HN.out];exact hlt
     have HDr:Hid (s.drop k=c :: s.drop (k+1)):=by
      show _=_
      rw[List.drop_eq_getElem_cons hkl,hc]
     have HSn:Hid ((s.drop b).take (k - b)++[c]=(s.drop b).take (k+1 - b)):=by
      show _=_
      rw[←hc]
      exact mid_snoc hbk hkl
     by_cases h47:c=47
     ·subst h47
      have HV:Hid ((y && vgo [] (s.drop (k+1)) (cnt+1))=R):=by
       show _=_
       have:=HI.out.1 hkn
       rw[HDr.out] at this
       unfold vgo at this
       rw[if_pos rfl,hy] at this
       exact this
      have hcb:(((47:UInt8).toNat:Int) != 47)=false:=by decide
      clear hy
      cases y with
      |false=>
       have HE:Hid (false=R):=HV.out
       go_wp2_with (go_at_call 132;rw[HEx.out];refine KC.out.mono ?_;rintro e w' ⟨rfl,rfl⟩)
       go_ret
       exact⟨ret_bool HE.out,rfl⟩
      |true=>
       have HA:Hid (vgo [] (s.drop (k+1)) (cnt+1)=R):=HV.out
       go_wp2_with (go_at_call 132;rw[HEx.out];refine KC.out.mono ?_;rintro e w' ⟨rfl,rfl⟩)
       go_round
       case rel=>exact⟨cnt+1,k+1,k+1,by go_num,by go_num,by go_num,by omega,Nat.le_refl _,by omega,fun _=>by rw[Nat.sub_self,List.take_zero];exact HA.out,fun h=>by omega⟩
       case measure=>simp[intOf];omega
     ·have hcb:((c.toNat:Int) != 47)=true:=by
       rw[bne_iff_ne]
       intro e
       exact h47 (UInt8.toNat_inj.1 (by simp;omega))
      have HA:Hid (vgo ((s.drop b).take (k+1 - b)) (s.drop (k+1)) cnt=R):=by
       show _=_
       have:=HI.out.1 hkn
       rw[HDr.out] at this
       unfold vgo at this
       rw[if_neg h47,HSn.out] at this
       exact this
      clear h47 hy
      go_wp2_with fail
      go_round
      case rel=>exact⟨cnt,b,k+1,rfl,rfl,by go_num,by omega,by omega,by omega,fun _=>HA.out,fun h=>by omega⟩
      case measure=>simp[intOf];omega
    ·obtain rfl:k=n:=by omega
     have HV:Hid ((y && decide (2≤cnt+1))=R):=by
      show _=_
      have:=HI.out.1 hkn
      rw[show s.drop k=[] from List.drop_of_length_le (by rw[HN.out];exact Nat.le_refl _)] at this
      unfold vgo at this
      rw[hy] at this
      exact this
     clear hy
     cases y with
     |false=>
      have HE:Hid (false=R):=HV.out
      go_wp2_with (go_at_call 132;rw[HEx.out];refine KC.out.mono ?_;rintro e w' ⟨rfl,rfl⟩)
      go_ret
      exact⟨ret_bool HE.out,rfl⟩
     |true=>
      have HA:Hid (decide (2≤cnt+1)=R):=by
       show _=_
       have:=HV.out
       rw[Bool.true_and] at this
       exact this
      go_wp2_with (go_at_call 132;rw[HEx.out];refine KC.out.mono ?_;rintro e w' ⟨rfl,rfl⟩)
      go_round
      case rel=>exact⟨cnt+1,k+1,k+1,by go_num,by go_num,by go_num,Nat.le_refl _,Nat.le_refl _,by omega,fun h=>by omega,fun _=>HA.out⟩
      case measure=>simp[intOf]
   ·obtain rfl:k=n+1:=by omega
    have hE:Hid (decide (2≤cnt)=R):=HI.out.2 (by omega)
    go_wp2_with fail
    go_ret
    exact⟨ret_bool (by rw[←hE.out];exact decide_eq_decide.2 (by omega)),rfl⟩
theorem pvalid_v (s:Str) (b:Bool) (w:World) (hl:s.length≤140737488355000) (h:validS s=b):Calls Tryz.prog 122 #[.string (bs s)] w fun e w'=>e=.returned (.bool b)∧w=w':=h ▸ pvalid_c s w hl
/-! ### the order of paths -/
theorem nanb_c (x:Int) (w:World):Calls Tryz.prog 162 #[.int .u8 x] w fun e w'=>e=.returned (.bool false)∧w=w':=by
 go_enter Tryz.func162,Tryz.ntmps162
 go_wp2_with fail
 go_ret
 exact⟨ret_bool (by simp),rfl⟩
theorem nani_c (x:Int) (w:World):Calls Tryz.prog 163 #[.int .i64 x] w fun e w'=>e=.returned (.bool false)∧w=w':=by
 go_enter Tryz.func163,Tryz.ntmps163
 go_wp2_with fail
 go_ret
 exact⟨ret_bool (by simp),rfl⟩
def cmpN (x y:Int):Int:=if x < y then -1 else if y < x then 1 else 0
theorem cmpb_c (x y:Int) (w:World):Calls Tryz.prog 123 #[.int .u8 x,.int .u8 y] w fun e w'=>e=.returned (.int .i64 (cmpN x y))∧w=w':=by
 unfold cmpN
 by_cases h1:x < y
 ·go_enter Tryz.func123,Tryz.ntmps123
  go_wp2_with (go_at_call 162;refine (nanb_c _ _).mono ?_;rintro e w' ⟨rfl,rfl⟩)
  go_ret
  exact⟨ret_int (by first | rfl | (simp_all;done) | (simp[*];done)),rfl⟩
 ·by_cases h2:y < x
  ·go_enter Tryz.func123,Tryz.ntmps123
   go_wp2_with (go_at_call 162;refine (nanb_c _ _).mono ?_;rintro e w' ⟨rfl,rfl⟩)
   go_ret
   exact⟨ret_int (by first | rfl | (simp_all;done) | (simp[*];done)),rfl⟩
  ·go_enter Tryz.func123,Tryz.ntmps123
   go_wp2_with (go_at_call 162;refine (nanb_c _ _).mono ?_;rintro e w' ⟨rfl,rfl⟩)
   go_ret
   exact⟨ret_int (by first | rfl | (simp_all;done) | (simp[*];done)),rfl⟩
theorem cmpi_c (x y:Int) (w:World):Calls Tryz.prog 124 #[.int .i64 x,.int .i64 y] w fun e w'=>e=.returned (.int .i64 (cmpN x y))∧w=w':=by
 unfold cmpN
 by_cases h1:x < y
 ·go_enter Tryz.func124,Tryz.ntmps124
  go_wp2_with (go_at_call 163;refine (nani_c _ _).mono ?_;rintro e w' ⟨rfl,rfl⟩)
  go_ret
  exact⟨ret_int (by first | rfl | (simp_all;done) | (simp[*];done)),rfl⟩
 ·by_cases h2:y < x
  ·go_enter Tryz.func124,Tryz.ntmps124
   go_wp2_with (go_at_call 163;refine (nani_c _ _).mono ?_;rintro e w' ⟨rfl,rfl⟩)
   go_ret
   exact⟨ret_int (by first | rfl | (simp_all;done) | (simp[*];done)),rfl⟩
  ·go_enter Tryz.func124,Tryz.ntmps124
   go_wp2_with (go_at_call 163;refine (nani_c _ _).mono ?_;rintro e w' ⟨rfl,rfl⟩)
   go_ret
   exact⟨ret_int (by first | rfl | (simp_all;done) | (simp[*];done)),rfl⟩
def cmpS:Str→Str→Int
 |[],[]=>0
 |[],_ :: _=>-1
 |_ :: _,[]=>1
 |x :: a,y :: b=>if x=y then cmpS a b else if x=47 then -1 else if y=47 then 1 else cmpN (x.toNat:Int) (y.toNat:Int)
theorem cmpS_end {a b:Str} (h:a=[]∨b=[]):cmpS a b=cmpN (a.length:Int) (b.length:Int):=by
 rcases a with _ | ⟨x,a⟩ <;> rcases b with _ | ⟨y,b⟩
 ·rfl
 ·unfold cmpS cmpN
  simp only[List.length_nil,List.length_cons]
  rw[if_pos (by omega)]
 ·unfold cmpS cmpN
  simp only[List.length_nil,List.length_cons]
  rw[if_neg (by omega),if_pos (by omega)]
 ·rcases h with h | h <;> cases h
def cmpP (a b:Str):Int × Int:=if validS a=true∧validS b=true then (cmpS a b,0) else (0,20)
theorem cmpN_add (x y k:Int):cmpN (x - k) (y - k)=cmpN x y:=by
 unfold cmpN
 by_cases h1:x < y
 ·rw[if_pos h1,if_pos (by omega)]
 ·rw[if_neg h1,if_neg (by omega)]
  by_cases h2:y < x
  ·rw[if_pos h2,if_pos (by omega)]
  ·rw[if_neg h2,if_neg (by omega)]
variable {α:Type} {enc:α→List Value} {K:Nat} {T:TypeId}
def ReadX (enc:α→List Value) (K:Nat) (w:World) (A:Option Addr) (m:List α):Prop:=m≠[]→∃b o,A=some ⟨b,o,none⟩∧b < w.heap.size∧∀(k:Nat) x,m[k]?=some x→∀(i:Nat) u,(enc x)[i]?=some u→w.cell? ⟨b,o+k * K+i,none⟩=some u
theorem ReadX.calm {w w':World} {A:Option Addr} {m:List α} (h:ReadX enc K w A m) (hc:Calm w w'):ReadX enc K w' A m:=fun hne=>by
 obtain⟨b,o,hA,hb,hk⟩:=h hne
 exact⟨b,o,hA,Nat.lt_of_lt_of_le hb hc.size,fun k x hx i u hu=>Calm.at_ hc (hk k x hx i u hu) hb⟩
theorem encs_cells (hlen:∀x,(enc x).length=K):∀(l:List α) (j:Nat) u,(encs enc l)[j]?=some u→∃k x i,l[k]?=some x∧j=k * K+i∧(enc x)[i]?=some u
 |[],j,u,h=>by simp[encs] at h
 |y :: t,j,u,h=>by
  have e:encs enc (y :: t)=enc y++encs enc t:=by simp[encs]
  rw[e] at h
  by_cases hj:j < K
  ·rw[List.getElem?_append_left (by rw[hlen];exact hj)] at h
   exact⟨0,y,j,rfl,by omega,h⟩
  ·rw[List.getElem?_append_right (by rw[hlen];omega),hlen] at h
   obtain⟨k,x,i,h1,h2,h3⟩:=encs_cells hlen t (j - K) u h
   exact⟨k+1,x,i,by simpa using h1,by rw[Nat.add_mul,Nat.one_mul];omega,h3⟩
theorem encs_app (l m:List α):encs enc (l++m)=encs enc l++encs enc m:=by simp[encs]
theorem run_append_xs {P:Program} {w w0:World} {S ty:TypeId} {i0:TypeInfo} {z:Value} {bytes:Nat} (ht:P.underlying S=some (.slice T)) (hi:P.info? T=some i0) (hz:i0.zero=some z) (hsize:i0.size=K) (hby:i0.bytes=bytes) (hzs:z.cells.size=K) (hK:0 < K)
  (hlen:∀x,(enc x).length=K) (h1:∀x,∀u∈enc x,u.oneCell'=true) {v:Value} {l m:List α} {A:Option Addr} {n c:Nat} (hown:OwnX enc K T w0 w v l) (hm:m.length=n)
  (hrd:ReadX enc K w A m) (hl:l.length+n≤2000000) (hb:bytes≤1000) :
  ∃v' w',(Builtin.append_ #[S,S] ty #[v,.slice A n c]).run P w=.ok v' w'∧OwnX enc K T w0 w' v' (l++m)∧w.grownBy w' v.ownBlock:=by
 cases A with
 |none=>
  have h0:m=[]:=Classical.byContradiction fun hne=>by
   obtain⟨b,o,hA,_⟩:=hrd hne
   cases hA
  subst h0
  obtain rfl:0=n:=by simpa using hm
  refine⟨v,w,?_,by rw[List.append_nil];exact hown,calm_grown (Calm.refl w)⟩
  rcases hown.own.2 with⟨rfl,h1⟩ | ⟨g,cap,cur,rfl,_,_,hnc,_⟩
  ·simp[Builtin.append_,run_underlying ht,sizeOf,typeInfo,hi,Builtin.lenOf,Builtin.firstCells]
  ·simp[Builtin.append_,run_underlying ht,sizeOf,typeInfo,hi,Builtin.lenOf,Builtin.firstCells,hnc,storeCells]
 |some ad=>
  have hnews:∀(j:Nat) (u:Value),(encs enc m)[j]?=some u→w.cell? (ad.add j)=some u:=fun j u hj=>by
   obtain⟨k,x,i,h2,rfl,h3⟩:=encs_cells hlen m j u hj
   obtain⟨b,o,hA,_,hk⟩:=hrd (fun e=>by rw[e] at h2;simp at h2)
   obtain rfl:=Option.some.inj hA
   simpa[Addr.add_lit,Nat.add_assoc] using hk k x h2 i u h3
  have h2:∀u∈encs enc m,u.oneCell'=true:=fun u hu=>by
   obtain⟨x,_,hx⟩:=List.mem_flatMap.1 hu
   exact h1 x u hx
  obtain⟨v',w',hr,h3,h4,_⟩:=run_append_own (P:=P) w w0.heap.size S ty T i0 z K bytes ht hi hz hsize hby hzs hK v l.length (encs enc l) hown.own ad n c (encs enc m) (by rw[encs_len hlen,hm]) hnews h2 (by unfold maxLen;omega) (Nat.le_trans (Nat.mul_le_mul (show l.length+n≤2000000 by omega) hb) (by decide)) hown.calm.size
  exact⟨v',w',hr,⟨Below.trans hown.calm (owns_below hown.own hown.calm.size h4),by rw[List.length_append,hm,encs_app];exact h3⟩,h4⟩
theorem OwnX.len_shape {α:Type} {enc:α→List Value} {K:Nat} {T:TypeId} {w0 w:World} {v:Value} {l:List α} (h:OwnX enc K T w0 w v l):∃A c,v=.slice A l.length c:=by
 rcases h.own.2 with⟨rfl,h0⟩ | ⟨g,cap,cur,rfl,_⟩
 ·exact⟨none,0,by rw[h0]⟩
 ·exact⟨_,_,rfl⟩
theorem OwnX.base {α:Type} {enc:α→List Value} {K:Nat} {T:TypeId} {w00 w0 w:World} {v:Value} {l:List α} (h:OwnX enc K T w0 w v l) (h0:Calm w00 w0):OwnX enc K T w00 w v l:=by
 refine⟨h0.trans h.calm,h.own.1,?_⟩
 rcases h.own.2 with h2 | ⟨g,cap,cur,hv,hg,hh,r⟩
 ·exact .inl h2
 ·exact .inr ⟨g,cap,cur,hv,Nat.le_trans h0.size hg,hh,r⟩
theorem step_append_xs {S:TypeId} {z:Value} {bytes:Nat} (ht:Tryz.prog.underlying S=some (.slice T)) (hi:(Tryz.prog.info? T).map (fun i=>(i.zero,i.size,i.bytes))=some (some z,K,bytes)) (hzs:z.cells.size=K) (hK0:0 < K) (hb:bytes≤1000)
  (hlen:∀x,(enc x).length=K) (h1:∀x,∀u∈enc x,u.oneCell'=true)
  {ops:Array Oper} {o:Oper} {a:Act} {w:World} {R:Act→World→Prop} {Q:Exit→Act→World→Prop} {E:Prop}
  (hg:o.guard=none) (s x:Operand) (hop:o.op=Op.call { callee:=Callee.builtin Builtin.append,args:=#[s,x],argTypes:=#[S,S] })
  (w0:World) (v:Value) (l m:List α) (hs:a.eval s=v) (hown:OwnX enc K T w0 w v l) (A:Option Addr) (n c:Nat) (hx:a.eval x=.slice A n c) (hm:m.length=n)
  (hrd:ReadX enc K w A m) (hl:l.length+n≤2000000)
  (hK:∀v' w',OwnX enc K T w0 w' v' (l++m)→w.grownBy w' v.ownBlock→R (a.put o.dst v') w') :
  if Region.wanted o (yielded ops a.tmps)=true then Oper.wp Tryz.prog o a w R Q else E:=by
 have hw:Region.wanted o (yielded ops a.tmps)=true:=by simp[Region.wanted,hg]
 rw[if_pos hw]
 obtain⟨i0,hi0,hz0,hz1,hz2⟩:=info_parts hi
 obtain⟨v',w',hr,h2,h3⟩:=run_append_xs (P:=Tryz.prog) (ty:=o.type) (c:=c) ht hi0 hz0 hz1 hz2 hzs hK0 hlen h1 hown hm hrd hl hb
 unfold Oper.wp
 simp[execOp,hop,resolve,invoke,builtin,hs,hx,Result.andThen]
 rw[hr]
 exact hK v' w' h2 h3
theorem wpList_append_xs {S:TypeId} {z:Value} {bytes:Nat} (ht:Tryz.prog.underlying S=some (.slice T)) (hi:(Tryz.prog.info? T).map (fun i=>(i.zero,i.size,i.bytes))=some (some z,K,bytes)) (hzs:z.cells.size=K) (hK0:0 < K) (hb:bytes≤1000)
  (hlen:∀x,(enc x).length=K) (h1:∀x,∀u∈enc x,u.oneCell'=true)
  {ops:Array Oper} {rest:List Oper} {o:Oper} {a:Act} {Q:Exit→Act→World→Prop} {w:World} (hgd:o.guard=none) (s x:Operand)
  (ho:o.op=.call { callee:=.builtin .append,args:=#[s,x],argTypes:=#[S,S] }) (w0:World) (v:Value) (l m:List α) (hs:a.eval s=v) (hown:OwnX enc K T w0 w v l) (A:Option Addr) (n c:Nat) (hx:a.eval x=.slice A n c) (hm:m.length=n)
  (hrd:ReadX enc K w A m) (hl:l.length+n≤2000000)
  (h:∀v' w',OwnX enc K T w0 w' v' (l++m)→w.grownBy w' v.ownBlock→wpList Tryz.prog ops Q rest (a.put o.dst v') w'):wpList Tryz.prog ops Q (o :: rest) a w:=by
 refine wpList_plain hgd fun _ hK=>?_
 obtain⟨i0,hi0,hz0,hz1,hz2⟩:=info_parts hi
 obtain⟨v',w',hr,h2,h3⟩:=run_append_xs (P:=Tryz.prog) (ty:=o.type) (c:=c) ht hi0 hz0 hz1 hz2 hzs hK0 hlen h1 hown hm hrd hl hb
 unfold Oper.wp execOp
 simp only[ho,resolve,invoke,builtin,Sem.run_bind,Sem.run_pure,Result.andThen_ok,List.map_toArray,List.map_cons,List.map_nil,hs,hx]
 rw[hr]
 exact hK _ _ (h v' w' h2 h3)
structure RowK (K:Nat) where
 vs:List Value
 len:vs.length=K
 one:∀u∈vs,u.oneCell'=true
theorem rowK_len {K:Nat} (x:RowK K):(RowK.vs x).length=K:=x.len
theorem rowK_one {K:Nat} (x:RowK K):∀u∈RowK.vs x,u.oneCell'=true:=x.one
def CloneK (K:Nat) (T:TypeId) (w:World) (l:List (RowK K)) (n:Nat) (e:Ending) (w':World):Prop:=∃A c,e=.returned (.slice A n c)∧OwnX RowK.vs K T w w' (.slice A n c) l
theorem own_emptyK {K:Nat} {T:TypeId} {w:World}:OwnX (RowK.vs (K:=K)) K T w (w.alloc (.cells #[] T)) (.slice (some ⟨w.heap.size,0,none⟩) 0 0) []:=
 ⟨(Calm.refl w).alloc _,World.ownsRow_made (base:=w.heap.size) (e:=T) (size:=K) w #[] 0 (Nat.le_refl _) (by decide) (by simp)⟩
theorem infoK_Edit:(Tryz.prog.info? 32).map (fun i=>(i.zero,i.size,i.bytes))=some (some (.agg #[.string ⟨#[]⟩,.int .i64 0,.int .i64 0,.bool false,.bool false,.bool false,.int .u64 0,.int .i64 0,.int .i64 0,.string ⟨#[]⟩,.int .i64 0,.int .i64 0]),12,96):=by kernel_rfl
set_option maxRecDepth 100000 in
set_option maxHeartbeats 2000000 in
theorem cloneEdit_c (l:List (RowK 12)) (A:Option Addr) (n c:Nat) (w:World) (hX:ReadX RowK.vs 12 w A l) (hn:l.length=n) (hle:n≤100000) :
  Calls Tryz.prog 70 #[.slice A n c] w fun e w'=>CloneK 12 32 w l n e w':=by
 have q25:∀(w:World) (a:Option Addr) (n c n' c':Nat),(binOp .eql 22 (.slice a n c) (.slice none n' c')).run Tryz.prog w=.ok (.bool a.isNone) w:=fun w a n c n' c'=>Lib.run_eql_slice_nil w _ _ a n c n' c' Tryz.underlying22
 cases A with
 |none=>
  have h0:l=[]:=Classical.byContradiction fun hne=>by
   obtain⟨b,o,hA,_⟩:=hX hne
   cases hA
  subst h0
  obtain rfl:0=n:=by simpa using hn
  go_enter Tryz.func70,Tryz.ntmps70
  go_wp2
  go_ret
  exact⟨none,0,rfl,OwnX.nil (Calm.refl w)⟩
 |some ad=>
  have HO:=Lib.hid (own_emptyK (K:=12) (T:=32) (w:=w))
  have HR:=Lib.hid (ReadX.calm (enc:=RowK.vs) hX ((Calm.refl w).alloc (.cells #[] 32)))
  have HN:=Lib.hid hn
  clear hX hn
  go_enter Tryz.func70,Tryz.ntmps70
  go_wp2_with (at_builtin;refine wpList_append_xs (enc:=RowK.vs) (K:=12) (T:=32) Tryz.underlying22 infoK_Edit rfl (by decide) (by decide) rowK_len rowK_one rfl (.tmp 5) (.tmp 6) rfl w _ [] l rfl HO.out (some ad) n c rfl HN.out HR.out (by simp;omega) ?_;intro v6 w6 hown6 hgr6;obtain⟨A6,c6,hv6⟩:=hown6.len_shape;rw[List.nil_append,HN.out] at hv6;subst hv6)
  go_ret
  rw[List.nil_append] at hown6
  exact⟨A6,c6,rfl,hown6⟩
theorem infoK_Revision:(Tryz.prog.info? 105).map (fun i=>(i.zero,i.size,i.bytes))=some (some (.agg #[.string ⟨#[]⟩,.int .i64 0,.int .i64 0,.int .i64 0,.int .i64 0,.bool false,.bool false,.bool false,.int .u64 0,.int .i64 0,.string ⟨#[]⟩,.int .i64 0]),12,96):=by kernel_rfl
set_option maxRecDepth 100000 in
set_option maxHeartbeats 2000000 in
theorem cloneRevision_c (l:List (RowK 12)) (A:Option Addr) (n c:Nat) (w:World) (hX:ReadX RowK.vs 12 w A l) (hn:l.length=n) (hle:n≤100000) :
  Calls Tryz.prog 46 #[.slice A n c] w fun e w'=>CloneK 12 105 w l n e w':=by
 have q25:∀(w:World) (a:Option Addr) (n c n' c':Nat),(binOp .eql 48 (.slice a n c) (.slice none n' c')).run Tryz.prog w=.ok (.bool a.isNone) w:=fun w a n c n' c'=>Lib.run_eql_slice_nil w _ _ a n c n' c' Tryz.underlying48
 cases A with
 |none=>
  have h0:l=[]:=Classical.byContradiction fun hne=>by
   obtain⟨b,o,hA,_⟩:=hX hne
   cases hA
  subst h0
  obtain rfl:0=n:=by simpa using hn
  go_enter Tryz.func46,Tryz.ntmps46
  go_wp2
  go_ret
  exact⟨none,0,rfl,OwnX.nil (Calm.refl w)⟩
 |some ad=>
  have HO:=Lib.hid (own_emptyK (K:=12) (T:=105) (w:=w))
  have HR:=Lib.hid (ReadX.calm (enc:=RowK.vs) hX ((Calm.refl w).alloc (.cells #[] 105)))
  have HN:=Lib.hid hn
  clear hX hn
  go_enter Tryz.func46,Tryz.ntmps46
  go_wp2_with (at_builtin;refine wpList_append_xs (enc:=RowK.vs) (K:=12) (T:=105) Tryz.underlying48 infoK_Revision rfl (by decide) (by decide) rowK_len rowK_one rfl (.tmp 5) (.tmp 6) rfl w _ [] l rfl HO.out (some ad) n c rfl HN.out HR.out (by simp;omega) ?_;intro v6 w6 hown6 hgr6;obtain⟨A6,c6,hv6⟩:=hown6.len_shape;rw[List.nil_append,HN.out] at hv6;subst hv6)
  go_ret
  rw[List.nil_append] at hown6
  exact⟨A6,c6,rfl,hown6⟩
theorem infoK_StreamPath:(Tryz.prog.info? 68).map (fun i=>(i.zero,i.size,i.bytes))=some (some (.agg #[.int .i64 0,.slice none 0 0,.bool false,.slice none 0 0,.bool false]),5,72):=by kernel_rfl
set_option maxRecDepth 100000 in
set_option maxHeartbeats 2000000 in
theorem cloneStreamPath_c (l:List (RowK 5)) (A:Option Addr) (n c:Nat) (w:World) (hX:ReadX RowK.vs 5 w A l) (hn:l.length=n) (hle:n≤100000) :
  Calls Tryz.prog 80 #[.slice A n c] w fun e w'=>CloneK 5 68 w l n e w':=by
 have q25:∀(w:World) (a:Option Addr) (n c n' c':Nat),(binOp .eql 39 (.slice a n c) (.slice none n' c')).run Tryz.prog w=.ok (.bool a.isNone) w:=fun w a n c n' c'=>Lib.run_eql_slice_nil w _ _ a n c n' c' Tryz.underlying39
 cases A with
 |none=>
  have h0:l=[]:=Classical.byContradiction fun hne=>by
   obtain⟨b,o,hA,_⟩:=hX hne
   cases hA
  subst h0
  obtain rfl:0=n:=by simpa using hn
  go_enter Tryz.func80,Tryz.ntmps80
  go_wp2
  go_ret
  exact⟨none,0,rfl,OwnX.nil (Calm.refl w)⟩
 |some ad=>
  have HO:=Lib.hid (own_emptyK (K:=5) (T:=68) (w:=w))
  have HR:=Lib.hid (ReadX.calm (enc:=RowK.vs) hX ((Calm.refl w).alloc (.cells #[] 68)))
  have HN:=Lib.hid hn
  clear hX hn
  go_enter Tryz.func80,Tryz.ntmps80
  go_wp2_with (at_builtin;refine wpList_append_xs (enc:=RowK.vs) (K:=5) (T:=68) Tryz.underlying39 infoK_StreamPath rfl (by decide) (by decide) rowK_len rowK_one rfl (.tmp 5) (.tmp 6) rfl w _ [] l rfl HO.out (some ad) n c rfl HN.out HR.out (by simp;omega) ?_;intro v6 w6 hown6 hgr6;obtain⟨A6,c6,hv6⟩:=hown6.len_shape;rw[List.nil_append,HN.out] at hv6;subst hv6)
  go_ret
  rw[List.nil_append] at hown6
  exact⟨A6,c6,rfl,hown6⟩
theorem infoK_Stream:(Tryz.prog.info? 41).map (fun i=>(i.zero,i.size,i.bytes))=some (some (.agg #[.string ⟨#[]⟩,.string ⟨#[]⟩,.slice none 0 0]),3,56):=by kernel_rfl
set_option maxRecDepth 100000 in
set_option maxHeartbeats 2000000 in
theorem cloneStream_c (l:List (RowK 3)) (A:Option Addr) (n c:Nat) (w:World) (hX:ReadX RowK.vs 3 w A l) (hn:l.length=n) (hle:n≤100000) :
  Calls Tryz.prog 59 #[.slice A n c] w fun e w'=>CloneK 3 41 w l n e w':=by
 have q25:∀(w:World) (a:Option Addr) (n c n' c':Nat),(binOp .eql 46 (.slice a n c) (.slice none n' c')).run Tryz.prog w=.ok (.bool a.isNone) w:=fun w a n c n' c'=>Lib.run_eql_slice_nil w _ _ a n c n' c' Tryz.underlying46
 cases A with
 |none=>
  have h0:l=[]:=Classical.byContradiction fun hne=>by
   obtain⟨b,o,hA,_⟩:=hX hne
   cases hA
  subst h0
  obtain rfl:0=n:=by simpa using hn
  go_enter Tryz.func59,Tryz.ntmps59
  go_wp2
  go_ret
  exact⟨none,0,rfl,OwnX.nil (Calm.refl w)⟩
 |some ad=>
  have HO:=Lib.hid (own_emptyK (K:=3) (T:=41) (w:=w))
  have HR:=Lib.hid (ReadX.calm (enc:=RowK.vs) hX ((Calm.refl w).alloc (.cells #[] 41)))
  have HN:=Lib.hid hn
  clear hX hn
  go_enter Tryz.func59,Tryz.ntmps59
  go_wp2_with (at_builtin;refine wpList_append_xs (enc:=RowK.vs) (K:=3) (T:=41) Tryz.underlying46 infoK_Stream rfl (by decide) (by decide) rowK_len rowK_one rfl (.tmp 5) (.tmp 6) rfl w _ [] l rfl HO.out (some ad) n c rfl HN.out HR.out (by simp;omega) ?_;intro v6 w6 hown6 hgr6;obtain⟨A6,c6,hv6⟩:=hown6.len_shape;rw[List.nil_append,HN.out] at hv6;subst hv6)
  go_ret
  rw[List.nil_append] at hown6
  exact⟨A6,c6,rfl,hown6⟩
theorem infoK_Lease:(Tryz.prog.info? 115).map (fun i=>(i.zero,i.size,i.bytes))=some (some (.agg #[.string ⟨#[]⟩,.string ⟨#[]⟩,.int .i64 0,.int .i64 0,.int .i64 0]),5,56):=by kernel_rfl
set_option maxRecDepth 100000 in
set_option maxHeartbeats 2000000 in
theorem cloneLease_c (l:List (RowK 5)) (A:Option Addr) (n c:Nat) (w:World) (hX:ReadX RowK.vs 5 w A l) (hn:l.length=n) (hle:n≤100000) :
  Calls Tryz.prog 52 #[.slice A n c] w fun e w'=>CloneK 5 115 w l n e w':=by
 have q25:∀(w:World) (a:Option Addr) (n c n' c':Nat),(binOp .eql 53 (.slice a n c) (.slice none n' c')).run Tryz.prog w=.ok (.bool a.isNone) w:=fun w a n c n' c'=>Lib.run_eql_slice_nil w _ _ a n c n' c' Tryz.underlying53
 cases A with
 |none=>
  have h0:l=[]:=Classical.byContradiction fun hne=>by
   obtain⟨b,o,hA,_⟩:=hX hne
   cases hA
  subst h0
  obtain rfl:0=n:=by simpa using hn
  go_enter Tryz.func52,Tryz.ntmps52
  go_wp2
  go_ret
  exact⟨none,0,rfl,OwnX.nil (Calm.refl w)⟩
 |some ad=>
  have HO:=Lib.hid (own_emptyK (K:=5) (T:=115) (w:=w))
  have HR:=Lib.hid (ReadX.calm (enc:=RowK.vs) hX ((Calm.refl w).alloc (.cells #[] 115)))
  have HN:=Lib.hid hn
  clear hX hn
  go_enter Tryz.func52,Tryz.ntmps52
  go_wp2_with (at_builtin;refine wpList_append_xs (enc:=RowK.vs) (K:=5) (T:=115) Tryz.underlying53 infoK_Lease rfl (by decide) (by decide) rowK_len rowK_one rfl (.tmp 5) (.tmp 6) rfl w _ [] l rfl HO.out (some ad) n c rfl HN.out HR.out (by simp;omega) ?_;intro v6 w6 hown6 hgr6;obtain⟨A6,c6,hv6⟩:=hown6.len_shape;rw[List.nil_append,HN.out] at hv6;subst hv6)
  go_ret
  rw[List.nil_append] at hown6
  exact⟨A6,c6,rfl,hown6⟩
structure Edt where
 path:Str
 act:Int
 tb:Int
 tk:Bool
 tx:Bool
 te:Bool
 sum:Int
 size:Int
 base:Int
 frm:Str
 fn:Int
 fence:Int
def encEd (x:Edt):List Value:=[.string (bs x.path),.int .i64 x.act,.int .i64 x.tb,.bool x.tk,.bool x.tx,.bool x.te,.int .u64 x.sum,.int .i64 x.size,.int .i64 x.base,.string (bs x.frm),.int .i64 x.fn,.int .i64 x.fence]
theorem encEd_one (x:Edt):∀u∈encEd x,u.oneCell'=true:=by simp[encEd,Value.oneCell']
def Edt.row (x:Edt):RowK 12:=⟨encEd x,rfl,encEd_one x⟩
theorem read_row {w:World} {A:Option Addr} {l:List Edt} (h:ReadX encEd 12 w A l):ReadX RowK.vs 12 w A (l.map Edt.row):=fun hne=>by
 obtain⟨b,o,hA,hb,hk⟩:=h (fun e=>hne (by rw[e];rfl))
 refine⟨b,o,hA,hb,fun k x hx i u hu=>?_⟩
 rw[List.getElem?_map] at hx
 obtain⟨y,hy,rfl⟩:=Option.map_eq_some_iff.1 hx
 exact hk k y hy i u hu
structure EdAt (w:World) (b o:Nat) (x:Edt):Prop where
 c0:w.cell? ⟨b,o,none⟩=some (.string (bs x.path))
 c1:w.cell? ⟨b,o+1,none⟩=some (.int .i64 x.act)
 c2:w.cell? ⟨b,o+2,none⟩=some (.int .i64 x.tb)
 c3:w.cell? ⟨b,o+3,none⟩=some (.bool x.tk)
 c4:w.cell? ⟨b,o+4,none⟩=some (.bool x.tx)
 c5:w.cell? ⟨b,o+5,none⟩=some (.bool x.te)
 c6:w.cell? ⟨b,o+6,none⟩=some (.int .u64 x.sum)
 c7:w.cell? ⟨b,o+7,none⟩=some (.int .i64 x.size)
 c8:w.cell? ⟨b,o+8,none⟩=some (.int .i64 x.base)
 c9:w.cell? ⟨b,o+9,none⟩=some (.string (bs x.frm))
 c10:w.cell? ⟨b,o+10,none⟩=some (.int .i64 x.fn)
 c11:w.cell? ⟨b,o+11,none⟩=some (.int .i64 x.fence)
theorem edits_get {w:World} {A:Option Addr} {l:List Edt} (h:ReadX encEd 12 w A l) {k:Nat} (hk:k < l.length):∃(b o:Nat) (x:Edt),A=some ⟨b,o,none⟩∧b < w.heap.size∧l[k]?=some x∧EdAt w b (o+k * 12) x:=by
 obtain⟨b,o,hA,hb,hc⟩:=h (fun e=>by rw[e] at hk;simp at hk)
 have hz:=List.getElem?_eq_getElem hk
 exact⟨b,o,l[k],hA,hb,hz,hc k _ hz 0 _ rfl,hc k _ hz 1 _ rfl,hc k _ hz 2 _ rfl,hc k _ hz 3 _ rfl,hc k _ hz 4 _ rfl,hc k _ hz 5 _ rfl,hc k _ hz 6 _ rfl,hc k _ hz 7 _ rfl,hc k _ hz 8 _ rfl,hc k _ hz 9 _ rfl,hc k _ hz 10 _ rfl,hc k _ hz 11 _ rfl⟩
theorem EdAt.calm {w w':World} {b o:Nat} {x:Edt} (h:EdAt w b o x) (hb:b < w.heap.size) (hc:Calm w w'):EdAt w' b o x:=
 ⟨Calm.at_ hc h.c0 hb,Calm.at_ hc h.c1 hb,Calm.at_ hc h.c2 hb,Calm.at_ hc h.c3 hb,Calm.at_ hc h.c4 hb,Calm.at_ hc h.c5 hb,Calm.at_ hc h.c6 hb,Calm.at_ hc h.c7 hb,Calm.at_ hc h.c8 hb,Calm.at_ hc h.c9 hb,Calm.at_ hc h.c10 hb,Calm.at_ hc h.c11 hb⟩
end Go.Proofs.YtcofdlipapnohaaGreatDoor
