/- The iterator mapping.pairs: for each entry of the first row, in order, those of the second, in order. -/
import Derived.RangeFuncNested
import Derived.RangeFuncBound
import Derived.RangeFuncCalls
import Derived.RangeFuncLeaves
import Derived.Shelf.Abstract
import Derived.Shelf.RegionOpen
import Derived.WalkKit
import Derived.OwnWalkIn
import Derived.TacticsInMore
import Derived.LoopNIn
import Derived.LoopIn
import Derived.Sort.CutIn
import Derived.Test.YtdcdabbepnahnaaGreatDoorZMapA
import Derived.Test.YtdcdabbepnahnaaGreatDoorZPutN
set_option linter.unusedVariables false
set_option linter.unusedSimpArgs false
namespace Go.Proofs.YtdcdabbepnahnaaGreatDoor
open Go Go.RowKit Go.Shelf Sy
attribute [local go_sem] Oper.semAt_some
def entZ (z : NewE) : Value:=entV z.LA z.RA z.HA z.e.left.parts.length z.lc z.e.right.parts.length z.rc z.e.hs.length z.hc z.e.left.rest z.e.right.rest
def pz (za zb : List NewE) : List (NewE × NewE):=za.flatMap fun x=>zb.map fun y=>(x,y)
theorem pz_take {za zb : List NewE} {k : Nat} {x : NewE} (h : za[k]? = some x) : pz (za.take (k + 1)) zb = pz (za.take k) zb ++ zb.map fun y=>(x,y):=by
 unfold pz
 rw [List.take_add_one,h,List.flatMap_append]
 simp
theorem pz_part (za zb : List NewE) (k : Nat) : pz (za.take k) zb <+: pz za zb:=by
 refine ⟨pz (za.drop k) zb,?_⟩
 unfold pz
 rw [← List.flatMap_append,List.take_append_drop]
theorem pz_part2 {za zb : List NewE} {k j : Nat} {x : NewE} (h : za[k]? = some x) : pz (za.take k) zb ++ (zb.take j).map (fun y=>(x,y)) <+: pz za zb:=by
 refine List.IsPrefix.trans ?_ (pz_part za zb (k + 1))
 rw [pz_take h]
 refine ⟨(zb.drop j).map fun y=>(x,y),?_⟩
 rw [List.append_assoc,← List.map_append,List.take_append_drop]
theorem pz_lt {za zb : List NewE} {k j : Nat} {x y : NewE} (h : za[k]? = some x) (hj : zb[j]? = some y) : (pz (za.take k) zb ++ (zb.take j).map (fun y=>(x,y))).length < (pz za zb).length:=by
 have h1:=(pz_part2 (za:=za) (zb:=zb) (k:=k) (j:=j + 1) h).length_le
 rw [List.length_append,List.length_map,List.length_take] at h1 ⊢
 have h2:=(List.getElem?_eq_some_iff.1 hj).1
 omega
theorem pz_snoc {za zb : List NewE} {k j : Nat} {x y : NewE} (hj : zb[j]? = some y) : (pz (za.take k) zb ++ (zb.take j).map (fun y=>(x,y))) ++ [(x,y)] = pz (za.take k) zb ++ (zb.take (j + 1)).map (fun y=>(x,y)):=by
 rw [List.append_assoc,List.take_add_one,hj,List.map_append]
 rfl
def PairZ (za zb : List NewE) : Type:={p : NewE × NewE // p.1 ∈ za ∧ p.2 ∈ zb}
structure KpP (w0 : World) (G : Nat) (W W' : World) : Prop where
 below : Below w0.heap.size W W'
 keep : KeepR W W' G
theorem KpP.trans {w0 : World} {G : Nat} {A B C : World} (h : KpP w0 G A B) (k : KpP w0 G B C) : KpP w0 G A C:=⟨h.below.trans k.below,h.keep.trans k.keep⟩
theorem free_new {G : Nat} {W : World} (hr : RowIn G W) (hG : G < W.heap.size) (o : Obj) : Free G (W.alloc o) W.heap.size:=
 ⟨by omega,fun v hv e=>by
  have h:=hr v (cell_back (Below.heap_alloc W o G hG) hv) W.heap.size e.symm
  omega⟩
structure Stay (G : Nat) (W : World) (b : Nat) (cs : Array Value) (T : TypeId) : Prop where
 is : W.heap[b]? = some (.cells cs T (0,0))
 free : Free G W b
theorem Stay.keep {G b : Nat} {W W' : World} {cs : Array Value} {T : TypeId} (h : Stay G W b cs T) (k : KeepR W W' G) : Stay G W' b cs T:=by
 obtain ⟨h1,h2⟩:=k.free b cs T _ h.is h.free
 exact ⟨h1,h2⟩
theorem Stay.lt {G b : Nat} {W : World} {cs : Array Value} {T : TypeId} (h : Stay G W b cs T) : b < W.heap.size:=heap_lt h.is
theorem Stay.cell {G b i : Nat} {W : World} {cs : Array Value} {T : TypeId} (h : Stay G W b cs T) {v : Value} (hv : cs[i]? = some v) : W.cell? ⟨b,i,none⟩ = some v:=by
 simp [World.cell?,show W.heap[b]? = _ from h.is,hv]
theorem Stay.five {G b : Nat} {W : World} {v0 v1 v2 v3 v4 : Value} {T : TypeId} (h : Stay G W b #[v0,v1,v2,v3,v4] T) : FiveB W b v0 v1 v2 v3 v4:=
 ⟨h.lt,h.cell rfl,h.cell rfl,h.cell rfl,h.cell rfl,h.cell rfl,fun o=>by simp [World.frozen?,show W.heap[b]? = _ from h.is]⟩
theorem Stay.new {G : Nat} {W : World} (hr : RowIn G W) (hG : G < W.heap.size) (cs : Array Value) (T : TypeId) : Stay G (W.alloc (.cells cs T)) W.heap.size cs T:=⟨World.alloc_heap_new W _,free_new hr hG _⟩
theorem readE {w : World} {A : Option Addr} {za : List NewE} (h : ReadX encE 5 w A za) {k : Nat} (hk : k < za.length) : ∃ (b o : Nat) (z : NewE),A = some ⟨b,o,none⟩ ∧ b < w.heap.size ∧ za[k]? = some z ∧
  w.cell? ⟨b,o + k * 5,none⟩ = some (.slice z.LA z.e.left.parts.length z.lc) ∧ w.cell? ⟨b,o + k * 5 + 1,none⟩ = some (.bool z.e.left.rest) ∧ w.cell? ⟨b,o + k * 5 + 2,none⟩ = some (.slice z.RA z.e.right.parts.length z.rc) ∧ w.cell? ⟨b,o + k * 5 + 3,none⟩ = some (.bool z.e.right.rest) ∧ w.cell? ⟨b,o + k * 5 + 4,none⟩ = some (.slice z.HA z.e.hs.length z.hc):=by
 obtain ⟨b,o,hA,hb,hc⟩:=h (fun e=>by rw [e] at hk;simp at hk)
 have hz:=List.getElem?_eq_getElem hk
 exact ⟨b,o,za[k],hA,hb,hz,hc k _ hz 0 _ rfl,hc k _ hz 1 _ rfl,hc k _ hz 2 _ rfl,hc k _ hz 3 _ rfl,hc k _ hz 4 _ rfl⟩
theorem entZ_eq {z : NewE} {nl nr nh : Nat} {rl rr : Bool} (h1 : z.e.left.parts.length = nl) (h2 : z.e.right.parts.length = nr) (h3 : z.e.hs.length = nh) (h4 : z.e.left.rest = rl) (h5 : z.e.right.rest = rr) : entZ z = .agg #[.slice z.LA nl z.lc,.bool rl,.slice z.RA nr z.rc,.bool rr,.slice z.HA nh z.hc]:=by
 unfold entZ entV
 rw [h1,h2,h3,h4,h5]
set_option maxRecDepth 100000 in
set_option maxHeartbeats 8000000 in
theorem pairs1_in (n : Nat) (hn : 1 ≤ n) (w0 : World) (l B1 B2 G : Nat) (A A2 : Option Addr) (na ca nb cb : Nat) (za zb : List NewE) (hA : ReadX encE 5 w0 A za) (hA2 : ReadX encE 5 w0 A2 zb) (hna : za.length = na) (hnb : zb.length = nb) (hla : na ≤ 1048576) (hlb : nb ≤ 1048576)
  (J Jx : List (PairZ za zb) → World → Prop)
  (hJ : ∀ pre W o,J pre W → J pre (W.alloc o))
  (hY : ∀ pre x W,J pre W → pre.length < (pz za zb).length → YieldAt Fence.wide (n - 1) Tryz.prog l #[entZ x.1.1,entZ x.1.2] W fun e W'=>
   (e = .returned (.bool true) ∧ J (pre ++ [x]) W' ∧ KpP w0 G W W') ∨ (e = .returned (.bool false) ∧ Jx (pre ++ [x]) W'))
  (W : World) (hc0 : Calm w0 W) (hB1 : W.cell? ⟨B1,0,none⟩ = some (.slice A na ca)) (hB2 : Stay G W B2 #[.slice A2 nb cb] 25) (hr : RowIn G W) (hG : G < W.heap.size) (h0 : J [] W) :
  CallsIn Fence.wide n Tryz.prog 83 #[.func (.yield l) #[] #[],.pointer (some ⟨B1,0,none⟩),.pointer (some ⟨B2,0,none⟩)] W fun e W'=>(∃ v,e = .returned v) ∧
   ((∃ ys : List (PairZ za zb),ys.map (·.1) = pz za zb ∧ J ys W') ∨ (∃ pre : List (PairZ za zb),pre.map (·.1) <+: pz za zb ∧ Jx pre W')):=by
 have HA:=Lib.hid (And.intro hA (And.intro hA2 (And.intro hna hnb)))
 have HS0:=Lib.hid (And.intro hB2 (And.intro hr hG))
 clear hA hA2 hna hnb hB2 hr hG
 refine callsIn_of_wp Tryz.func83 rfl trivial ?_ rfl
 simp only [Tryz.ntmps83,List.size_toArray,List.length_cons,List.length_nil,Nat.reduceAdd,Nat.reduceSub,Array.replicate_succ,Array.replicate_zero,List.push_toArray,List.append_toArray,List.nil_append,List.cons_append]
 gi_wp2
 gi_loopw [10] (fun i wr=>∃ (k : Nat) (pre : List (PairZ za zb)),k ≤ na ∧ i = .int .i64 k ∧ pre.map (·.1) = pz (za.take k) zb ∧ J pre wr ∧ Hid (Calm w0 wr ∧ Stay G wr B2 #[.slice A2 nb cb] 25 ∧ RowIn G wr ∧ G < wr.heap.size))
  (fun i _=>na - (intOf i).toNat)
 case atStart=>exact ⟨0,[],Nat.zero_le _,rfl,rfl,h0,hc0,HS0.out⟩
 case round=>
  obtain ⟨k,pre,hk,rfl,hpre,hJs,HC⟩:=hrel
  by_cases hlt : k < na
  ·obtain ⟨b,o,x,rfl,hb,hx,c0,c1,c2,c3,c4⟩:=readE (HA.out.1.calm HC.out.1) (k:=k) (by rw [HA.out.2.2.1];exact hlt)
   have HX:=Lib.hid hx
   clear hx
   obtain ⟨nl,hnl⟩ : ∃ nl,x.e.left.parts.length = nl:=⟨_,rfl⟩
   obtain ⟨nr,hnr⟩ : ∃ nr,x.e.right.parts.length = nr:=⟨_,rfl⟩
   obtain ⟨nh,hnh⟩ : ∃ nh,x.e.hs.length = nh:=⟨_,rfl⟩
   obtain ⟨rl,hrl⟩ : ∃ rl,x.e.left.rest = rl:=⟨_,rfl⟩
   obtain ⟨rr,hrr⟩ : ∃ rr,x.e.right.rest = rr:=⟨_,rfl⟩
   have HV : Hid (entZ x = .agg #[.slice x.LA nl x.lc,.bool rl,.slice x.RA nr x.rc,.bool rr,.slice x.HA nh x.hc]):=entZ_eq hnl hnr hnh hrl hrr
   rw [hnl] at c0
   rw [hrl] at c1
   rw [hnr] at c2
   rw [hrr] at c3
   rw [hnh] at c4
   clear hnl hnr hnh hrl hrr
   obtain ⟨wx,hwx⟩ : ∃ wx,wx = wr.alloc (.cells #[.slice x.LA nl x.lc,.bool rl,.slice x.RA nr x.rc,.bool rr,.slice x.HA nh x.hc] 73):=⟨_,rfl⟩
   obtain ⟨B,hB⟩ : ∃ B,wr.heap.size = B:=⟨_,rfl⟩
   have hJx : J pre wx:=by rw [hwx];exact hJ _ _ _ hJs
   have hcx : Calm wr wx:=by
    show Below _ _ _
    rw [hwx]
    exact (Calm.refl _).alloc _
   have hkx : KeepR wr wx G:=KeepR.calm HC.out.2.2.2 hcx
   have hsx : Stay G wx B #[.slice x.LA nl x.lc,.bool rl,.slice x.RA nr x.rc,.bool rr,.slice x.HA nh x.hc] 73:=by rw [hwx,← hB];exact Stay.new HC.out.2.2.1 HC.out.2.2.2 _ _
   have HWx:=Lib.hid hwx
   have HBs:=Lib.hid hB
   have HCx : Hid (Calm w0 wx ∧ Stay G wx B2 #[.slice A2 nb cb] 25 ∧ RowIn G wx ∧ G < wx.heap.size):=⟨HC.out.1.trans hcx,HC.out.2.1.keep hkx,hkx.row HC.out.2.2.1,Nat.lt_of_lt_of_le HC.out.2.2.2 hcx.size⟩
   have HSx:=Lib.hid hsx
   have hb2x : wx.cell? ⟨B2,0,none⟩ = some (.slice A2 nb cb):=HCx.out.2.1.cell rfl
   clear hcx hkx hsx hwx hB
   gi_upto_region 3 with (fail)
   rw [← HWx.out,HBs.out]
   clear c0 c1 c2 c3 c4
   gi_wp2
   gi_loopw [16] (fun i wy=>∃ (m : Nat) (pre2 : List (PairZ za zb)),m ≤ nb ∧ i = .int .i64 m ∧ Hid (pre2.map (·.1) = pz (za.take k) zb ++ (zb.take m).map fun y=>(x,y)) ∧ J pre2 wy ∧ Hid ((Calm w0 wy ∧ Stay G wy B2 #[.slice A2 nb cb] 25 ∧ RowIn G wy ∧ G < wy.heap.size) ∧ Stay G wy B #[.slice x.LA nl x.lc,.bool rl,.slice x.RA nr x.rc,.bool rr,.slice x.HA nh x.hc] 73))
    (fun i _=>nb - (intOf i).toNat)
   case atStart=>exact ⟨0,pre,Nat.zero_le _,rfl,by show _ = _;rw [hpre];simp,hJx,HCx.out,HSx.out⟩
   case round=>
    obtain ⟨m,pre2,hm,rfl,HP,hJ2,HD⟩:=hrel
    by_cases hlt2 : m < nb
    ·obtain ⟨b9,o9,y,hA2e,hb9,hy9,d0,d1,d2,d3,d4⟩:=readE (HA.out.2.1.calm HD.out.1.1) (k:=m) (by rw [HA.out.2.2.2];exact hlt2)
     subst hA2e
     have HY9:=Lib.hid hy9
     clear hy9
     obtain ⟨ml,hml⟩ : ∃ ml,y.e.left.parts.length = ml:=⟨_,rfl⟩
     obtain ⟨mr,hmr⟩ : ∃ mr,y.e.right.parts.length = mr:=⟨_,rfl⟩
     obtain ⟨mh,hmh⟩ : ∃ mh,y.e.hs.length = mh:=⟨_,rfl⟩
     obtain ⟨sl,hsl⟩ : ∃ sl,y.e.left.rest = sl:=⟨_,rfl⟩
     obtain ⟨sr,hsr⟩ : ∃ sr,y.e.right.rest = sr:=⟨_,rfl⟩
     have HV2 : Hid (entZ y = .agg #[.slice y.LA ml y.lc,.bool sl,.slice y.RA mr y.rc,.bool sr,.slice y.HA mh y.hc]):=entZ_eq hml hmr hmh hsl hsr
     rw [hml] at d0
     rw [hsl] at d1
     rw [hmr] at d2
     rw [hsr] at d3
     rw [hmh] at d4
     clear hml hmr hmh hsl hsr
     obtain ⟨wz,hwz⟩ : ∃ wz,wz = wr.alloc (.cells #[.slice y.LA ml y.lc,.bool sl,.slice y.RA mr y.rc,.bool sr,.slice y.HA mh y.hc] 73):=⟨_,rfl⟩
     obtain ⟨B9,hB9⟩ : ∃ B9,wr.heap.size = B9:=⟨_,rfl⟩
     have hJz : J pre2 wz:=by rw [hwz];exact hJ _ _ _ hJ2
     have hcz : Calm wr wz:=by
      show Below _ _ _
      rw [hwz]
      exact (Calm.refl _).alloc _
     have hkz : KeepR wr wz G:=KeepR.calm HD.out.1.2.2.2 hcz
     have hsz : Stay G wz B9 #[.slice y.LA ml y.lc,.bool sl,.slice y.RA mr y.rc,.bool sr,.slice y.HA mh y.hc] 73:=by rw [hwz,← hB9];exact Stay.new HD.out.1.2.2.1 HD.out.1.2.2.2 _ _
     have HDz : Hid ((Calm w0 wz ∧ Stay G wz B2 #[.slice (some ⟨b9,o9,none⟩) nb cb] 25 ∧ RowIn G wz ∧ G < wz.heap.size) ∧ Stay G wz B #[.slice x.LA nl x.lc,.bool rl,.slice x.RA nr x.rc,.bool rr,.slice x.HA nh x.hc] 73):=
      ⟨⟨HD.out.1.1.trans hcz,HD.out.1.2.1.keep hkz,hkz.row HD.out.1.2.2.1,Nat.lt_of_lt_of_le HD.out.1.2.2.2 hcz.size⟩,HD.out.2.keep hkz⟩
     have hmem : x ∈ za ∧ y ∈ zb:=⟨List.mem_of_getElem? HX.out,List.mem_of_getElem? HY9.out⟩
     have hlen : pre2.length < (pz za zb).length:=by
      have:=pz_lt HX.out HY9.out
      rw [← HP.out,List.length_map] at this
      exact this
     obtain ⟨fn,tmps,assign,body,hy,hR⟩:=hY pre2 ⟨(x,y),hmem⟩ wz hJz hlen
     dsimp only at hy
     rw [HV.out,HV2.out] at hy
     have HWz:=Lib.hid hwz
     have HBz:=Lib.hid hB9
     have f0:=HDz.out.2.five
     have g0:=hsz.five
     have c0:=f0.c0
     have c1:=f0.c1
     have c2:=f0.c2
     have c3:=f0.c3
     have c4:=f0.c4
     have e0:=g0.c0
     have e1:=g0.c1
     have e2:=g0.c2
     have e3:=g0.c3
     have e4:=g0.c4
     clear hcz hkz hsz hwz hB9 f0 g0
     gi_upto_region 6 with (fail)
     rw [← HWz.out,HBz.out]
     clear d0 d1 d2 d3 d4
     gi_wp2
     refine hR.mono ?_
     rintro e W3 (⟨rfl,hJ3,hk3⟩ | ⟨rfl,hJx3⟩)
     ·gi_wp2
      go_roundw
      case rel=>exact ⟨m + 1,pre2 ++ [⟨(x,y),hmem⟩],by omega,by go_num,by show _ = _;rw [List.map_append,HP.out];exact pz_snoc HY9.out,hJ3,⟨Below.trans HDz.out.1.1 hk3.below,HDz.out.1.2.1.keep hk3.keep,hk3.keep.row HDz.out.1.2.2.1,Nat.lt_of_lt_of_le HDz.out.1.2.2.2 hk3.keep.size⟩,HDz.out.2.keep hk3.keep⟩
      case measure=>simp [intOf];omega
     ·gi_wp2
      refine bodyPost_ret (results_none rfl _ _ _) rfl ?_
      refine ⟨⟨_,rfl⟩,.inr ⟨pre2 ++ [⟨(x,y),hmem⟩],?_,hJx3⟩⟩
      rw [List.map_append,HP.out]
      show pz (za.take k) zb ++ _ ++ [(x,y)] <+: _
      rw [pz_snoc HY9.out]
      exact pz_part2 HX.out
    ·obtain rfl : m = nb:=by omega
     gi_wp2
     go_roundw
     case rel=>exact ⟨k + 1,pre2,by omega,by go_num,by rw [HP.out,pz_take HX.out,List.take_of_length_le (l:=zb) (by rw [HA.out.2.2.2];exact Nat.le_refl _)],hJ2,HD.out.1⟩
     case measure=>simp [intOf];omega
  ·obtain rfl : k = na:=by omega
   gi_wp2
   go_end0
   refine ⟨⟨_,rfl⟩,.inl ⟨pre,?_,hJs⟩⟩
   rw [hpre,List.take_of_length_le (by rw [HA.out.2.2.1];exact Nat.le_refl _)]
theorem pairs_in (n : Nat) (A A2 : Option Addr) (na ca nb cb : Nat) (w : World) :
  CallsIn Fence.wide n Tryz.prog 45 #[.slice A na ca,.slice A2 nb cb] w fun e w'=>e = .returned (.func (.func 83) #[] #[.pointer (some ⟨w.heap.size,0,none⟩),.pointer (some ⟨w.heap.size + 1,0,none⟩)]) ∧ w' = (w.alloc (.cells #[.slice A na ca] 25)).alloc (.cells #[.slice A2 nb cb] 25):=by
 refine callsIn_of_wp Tryz.func45 rfl trivial ?_ rfl
 simp only [Tryz.ntmps45,List.size_toArray,List.length_cons,List.length_nil,Nat.reduceAdd,Nat.reduceSub,Array.replicate_succ,Array.replicate_zero,List.push_toArray,List.append_toArray,List.nil_append,List.cons_append]
 gi_wp2
 go_ret
 exact ⟨rfl,rfl⟩
theorem pairs_stops (n : Nat) (hn : 1 ≤ n) (w0 : World) (B1 B2 G : Nat) (A A2 : Option Addr) (na ca nb cb : Nat) (za zb : List NewE) (hA : ReadX encE 5 w0 A za) (hA2 : ReadX encE 5 w0 A2 zb) (hna : za.length = na) (hnb : zb.length = nb) (hla : na ≤ 1048576) (hlb : nb ≤ 1048576)
  (w : World) (hc0 : Calm w0 w) (hB1 : w.cell? ⟨B1,0,none⟩ = some (.slice A na ca)) (hB2 : Stay G w B2 #[.slice A2 nb cb] 25) (hr : RowIn G w) (hG : G < w.heap.size) :
  SeqStopsK Fence.wide n Tryz.prog 83 #[.pointer (some ⟨B1,0,none⟩),.pointer (some ⟨B2,0,none⟩)] (fun x : PairZ za zb=>#[entZ x.1.1,entZ x.1.2]) (KpP w0 G) (fun ys=>ys.map (·.1) = pz za zb) (fun pre=>pre.map (·.1) <+: pz za zb) (pz za zb).length w:=fun l J Jx W hW hJ hJx hY h0=>by
 have hk : KeepR w W G:=KeepR.calm hG hW
 exact pairs1_in n hn w0 l B1 B2 G A A2 na ca nb cb za zb hA hA2 hna hnb hla hlb J Jx (fun pre X o hj=>hJ pre X _ none hj (World.grownBy_alloc X o none) (fun r e=>by cases e)) hY W (hc0.trans hW) (Calm.at_ hW hB1 (World.block_lt_of_cell? w ⟨B1,0,none⟩ hB1)) (hB2.keep hk) (hk.row hr) (Nat.lt_of_lt_of_le hG hk.size) h0
end Go.Proofs.YtdcdabbepnahnaaGreatDoor
