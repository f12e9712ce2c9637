/- Small patterns of the call's own; the contracts of pattern.Meet. -/
import Derived.Laws.IdiomCopy
import Derived.Maps.AppendAt
import Derived.Deep.Upon
import Derived.IntWalk
import Derived.Lib.SliceRun
import Derived.Deep.RegionLaw
import Derived.Deep.RegionHeld3
import Derived.Test.YtdcdabbepnahnaaGreatDoorZCopyP
import Derived.Test.YtdcdabbepnahnaaGreatDoorZMeetL
import Derived.Test.YtdcdabbepnahnaaGreatDoorZMeetW
import Derived.Test.YtdcdabbepnahnaaGreatDoorZOwn
import Derived.Test.YtdcdabbepnahnaaGreatDoorZReduceL
set_option linter.unusedVariables false
set_option linter.unusedSimpArgs false
namespace Go.Proofs.YtdcdabbepnahnaaGreatDoor
open Go Go.RowKit Sy

variable {α : Type} {enc : α → List Value} {K : Nat} {T : TypeId}
structure RowX (enc : α → List Value) (K : Nat) (T : TypeId) (w : World) (g o : Nat) (l : List α) : Prop where
 kind : ∃ cs,w.heap[g]? = some (.cells cs T (0,0))
 cell : ∀ (k : Nat) x,l[k]? = some x → ∀ (i : Nat) u,(enc x)[i]? = some u → w.cell? ⟨g,o + k * K + i,none⟩ = some u

theorem RowX.lt {w : World} {g o : Nat} {l : List α} (h : RowX enc K T w g o l) : g < w.heap.size:=by
 obtain ⟨cs,hh⟩:=h.kind
 exact heap_lt hh
theorem RowX.free {w : World} {g o : Nat} {l : List α} (h : RowX enc K T w g o l) (j : Nat) : w.frozen? ⟨g,j,none⟩ = false:=by
 obtain ⟨cs,hh⟩:=h.kind
 exact frozen_of_row w g j cs _ hh
theorem RowX.of_block {w w' : World} {g o : Nat} {l : List α} (h : RowX enc K T w g o l) (hb : w'.heap[g]? = w.heap[g]?) : RowX enc K T w' g o l:=
 ⟨by obtain ⟨cs,hh⟩:=h.kind;exact ⟨cs,hb.trans hh⟩,fun k x hk i u hu=>(World.cell?_of_block (a:=⟨g,o + k * K + i,none⟩) hb).trans (h.cell k x hk i u hu)⟩
theorem RowX.calm {w w' : World} {g o : Nat} {l : List α} (h : RowX enc K T w g o l) (hc : Calm w w') : RowX enc K T w' g o l:=h.of_block (hc.block g h.lt)
theorem RowX.grown {w w' : World} {g o : Nat} {l : List α} {row : Option Nat} (h : RowX enc K T w g o l) (hg : w.grownBy w' row) (hne : some g ≠ row) : RowX enc K T w' g o l:=h.of_block (hg.block g h.lt hne)
theorem RowX.take {w : World} {g o : Nat} {l : List α} (h : RowX enc K T w g o l) (n : Nat) : RowX enc K T w g o (l.take n):=
 ⟨h.kind,fun k x hk i u hu=>h.cell k x (by rw [List.getElem?_take] at hk;split at hk;exact hk;cases hk) i u hu⟩
theorem kind_setCells {w : World} {g b : Nat} : ∀ (vs : List Value) (o : Nat) (w : World),(∃ cs,w.heap[g]? = some (.cells cs T (0,0))) → ∃ cs,(w.setCells b o vs).heap[g]? = some (.cells cs T (0,0))
 |[],o,w,h=>h
 |v :: r,o,w,h=>by
  refine kind_setCells (w:=w) r (o + 1) _ ?_
  obtain ⟨cs,hh⟩:=h
  by_cases e : b = g
  ·subst e
   exact ⟨cs.setIfInBounds o v,by simp [World.setCell,Array.getElem?_modify,hh]⟩
  ·exact ⟨cs,by rw [Deep.blk_setCell_other _ _ _ _ (Ne.symm e)];exact hh⟩
theorem grown_setCells {w : World} (g o : Nat) (vs : List Value) : w.grownBy (w.setCells g o vs) (some g):=by
 have key : ∀ (vs : List Value) (o : Nat) (w : World),(w.setCells g o vs).os = w.os ∧ (w.setCells g o vs).tape = w.tape ∧ (w.setCells g o vs).output = w.output ∧ (w.setCells g o vs).heap.size = w.heap.size:=fun vs=>by
  induction vs with
  |nil=>intro o w;exact ⟨rfl,rfl,rfl,rfl⟩
  |cons v r ih=>
   intro o w
   obtain ⟨h1,h2,h3,h4⟩:=ih (o + 1) (w.setCell ⟨g,o,none⟩ v)
   exact ⟨h1,h2,h3,h4.trans (by simp [World.setCell])⟩
 obtain ⟨h1,h2,h3,h4⟩:=key vs o w
 exact ⟨h1,h2,h3,Nat.le_of_eq h4.symm,fun k hk hne=>World.heap_setCells_other w g o vs hk (fun e=>hne (by rw [e]))⟩
theorem calm_grown {w w' : World} {row : Option Nat} (h : Calm w w') : w.grownBy w' row:=⟨h.os,h.tape,h.output,h.size,fun k hk _=>h.block k hk⟩
theorem grown_calm {w0 w w' : World} {g : Nat} (h : Calm w0 w) (hg : w.grownBy w' (some g)) (hB : w0.heap.size ≤ g) : Calm w0 w':=
 ⟨hg.os.trans h.os,hg.tape.trans h.tape,hg.output.trans h.output,Nat.le_trans h.size hg.size,fun k hk=>(hg.block k (Nat.lt_of_lt_of_le hk h.size) (fun e=>by injection e with e;omega)).trans (h.block k hk)⟩
theorem RowX.put {w : World} {g o : Nat} {l : List α} (hlen : ∀ x,(enc x).length = K) (h : RowX enc K T w g o l) {k : Nat} (hk : k < l.length) (x : α) : RowX enc K T (w.setCells g (o + k * K) (enc x)) g o (l.set k x):=by
 refine ⟨kind_setCells (w:=w) _ _ _ h.kind,fun j y hj i u hu=>?_⟩
 have hi : i < K:=by rw [← hlen y];exact (List.getElem?_eq_some_iff.1 hu).1
 by_cases e : k = j
 ·subst e
  rw [List.getElem?_set_self hk] at hj
  obtain rfl : x = y:=Option.some.inj hj
  have hsome : ∀ t,t < (enc x).length → (w.cell? ⟨g,o + k * K + t,none⟩).isSome = true:=fun t ht=>by
   have hy:=List.getElem?_eq_getElem hk
   have hlt : t < (enc l[k]).length:=by rw [hlen] at ht ⊢;exact ht
   rw [h.cell k _ hy t _ (List.getElem?_eq_getElem hlt)]
   rfl
  have:=World.cell?_setCells_in g (enc x) (o + k * K) w hsome i (by rw [hlen];exact hi)
  rw [this]
  rw [List.getElem?_eq_getElem (by rw [hlen];exact hi)] at hu
  exact hu
 ·rw [List.getElem?_set_ne e] at hj
  rw [World.cell?_setCells_out g (enc x) (o + k * K) w ⟨g,o + j * K + i,none⟩ (fun _ _=>?_)]
  ·exact h.cell j y hj i u hu
  ·show o + j * K + i < o + k * K ∨ o + k * K + (enc x).length ≤ o + j * K + i
   rw [hlen]
   rcases Nat.lt_or_ge j k with hjk | hjk
   ·left
    have:=Nat.mul_le_mul_right K (show j + 1 ≤ k from hjk)
    rw [Nat.add_mul,Nat.one_mul] at this
    omega
   ·right
    have:=Nat.mul_le_mul_right K (show k + 1 ≤ j by omega)
    rw [Nat.add_mul,Nat.one_mul] at this
    omega

/-! ### rows that grow by append -/
def encs (enc : α → List Value) (l : List α) : List Value:=l.flatMap enc
theorem encs_snoc (l : List α) (x : α) : encs enc (l ++ [x]) = encs enc l ++ enc x:=by simp [encs]
theorem encs_len (hlen : ∀ x,(enc x).length = K) : ∀ l : List α,(encs enc l).length = l.length * K
 |[]=>by simp [encs]
 |x :: t=>by
  have ih:=encs_len hlen t
  simp only [encs,List.flatMap_cons,List.length_append,List.length_cons] at ih ⊢
  rw [ih,hlen,Nat.succ_mul,Nat.add_comm]
theorem encs_get (hlen : ∀ x,(enc x).length = K) : ∀ (l : List α) (k : Nat) x,l[k]? = some x → ∀ (i : Nat) u,(enc x)[i]? = some u → (encs enc l)[k * K + i]? = some u
 |[],k,x,h,_,_,_=>by simp at h
 |y :: t,0,x,h,i,u,hu=>by
  simp only [List.getElem?_cons_zero,Option.some.injEq] at h
  subst h
  have hi:=(List.getElem?_eq_some_iff.1 hu).1
  rw [encs,List.flatMap_cons,Nat.zero_mul,Nat.zero_add,List.getElem?_append_left hi]
  exact hu
 |y :: t,k + 1,x,h,i,u,hu=>by
  have ih:=encs_get hlen t k x (by simpa using h) i u hu
  rw [encs,List.flatMap_cons,List.getElem?_append_right (by rw [hlen,Nat.add_mul,Nat.one_mul];omega),hlen]
  have e : (k + 1) * K + i - K = k * K + i:=by rw [Nat.add_mul,Nat.one_mul];omega
  rw [e]
  exact ih
structure OwnX (enc : α → List Value) (K : Nat) (T : TypeId) (w0 w : World) (v : Value) (l : List α) : Prop where
 calm : Calm w0 w
 own : w.ownsRow w0.heap.size T K v l.length (encs enc l)
theorem OwnX.nil {w0 w : World} (h : Calm w0 w) : OwnX enc K T w0 w (.slice none 0 0) []:=⟨h,World.ownsRow_nil _ _ _ _⟩
theorem OwnX.to {w0 w w' : World} {v : Value} {l : List α} (h : OwnX enc K T w0 w v l) (hc : Calm w w') : OwnX enc K T w0 w' v l:=⟨h.calm.trans hc,owns_calm h.own hc⟩
theorem OwnX.row {w0 w : World} {v : Value} {l : List α} (hlen : ∀ x,(enc x).length = K) (h : OwnX enc K T w0 w v l) : (v = .slice none 0 0 ∧ l = []) ∨ ∃ g c,v = .slice (some ⟨g,0,none⟩) l.length c ∧ l.length ≤ c ∧ c ≤ 9223372036854775807 ∧ w0.heap.size ≤ g ∧ RowX enc K T w g 0 l:=by
 rcases h.own.2 with ⟨rfl,h0⟩ | ⟨g,cap,cur,rfl,hg,hh,hcap,hm,hs,ht⟩
 ·exact .inl ⟨rfl,List.eq_nil_of_length_eq_zero h0⟩
 ·refine .inr ⟨g,cap,rfl,hcap,by unfold maxLen at hm;omega,hg,⟨cur,hh⟩,fun k x hk i u hu=>?_⟩
  have h1:=h.own.cells (g:=g) rfl (k * K + i) u (encs_get hlen l k x hk i u hu)
  simpa [Addr.add_lit,Nat.add_assoc] using h1
theorem OwnX.far {w0 w : World} {v : Value} {l : List α} (h : OwnX enc K T w0 w v l) {b : Nat} (hb : b < w0.heap.size) : some b ≠ v.ownBlock:=fun e=>by
 have:=owns_lt h.own e.symm
 omega
theorem OwnX.blk_lt {w0 w : World} {v : Value} {l : List α} (h : OwnX enc K T w0 w v l) {b : Nat} (hb : some b = v.ownBlock) : b < w.heap.size:=(owns_lt h.own hb.symm).2
theorem run_append_x {P : Program} {w w0 : World} {S ty : TypeId} {i0 : TypeInfo} {z : Value} {bytes : Nat} (ht : P.underlying S = some (.slice T)) (hi : P.info? T = some i0) (hz : i0.zero = some z) (hsize : i0.size = K) (hby : i0.bytes = bytes) (hzs : z.cells.size = K) (hK : 0 < K)
  (hlen : ∀ x,(enc x).length = K) (h1 : ∀ x,∀ u ∈ enc x,u.oneCell' = true) {v : Value} {l : List α} {x : α} {n c : Nat} (hown : OwnX enc K T w0 w v l)
  (hrd : ∀ (j : Nat) u,(enc x)[j]? = some u → w.cell? ⟨n,j,none⟩ = some u) (hl : l.length ≤ 1000000) (hb : bytes ≤ 1000) :
  ∃ v' w',(Builtin.append_ #[S,S] ty #[v,.slice (some ⟨n,0,none⟩) 1 c]).run P w = .ok v' w' ∧ OwnX enc K T w0 w' v' (l ++ [x]) ∧ w.grownBy w' v.ownBlock:=by
 have hnews : ∀ (j : Nat) (u : Value),(enc x)[j]? = some u → w.cell? ((⟨n,0,none⟩ : Addr).add j) = some u:=fun j u hj=>by
  simpa [Addr.add_lit] using hrd j u hj
 obtain ⟨v',w',hr,h2,h3,_⟩:=run_append_own (P:=P) w w0.heap.size S ty T i0 z K bytes ht hi hz hsize hby hzs hK v l.length (encs enc l) hown.own ⟨n,0,none⟩ 1 c (enc x) (by rw [hlen,Nat.one_mul]) hnews (h1 x) (by unfold maxLen;omega) (Nat.le_trans (Nat.mul_le_mul (show l.length + 1 ≤ 1000001 by omega) hb) (by decide)) hown.calm.size
 exact ⟨v',w',hr,⟨Below.trans hown.calm (owns_below hown.own hown.calm.size h3),by rw [List.length_append,encs_snoc];exact h2⟩,h3⟩

/-! ### holes with their texts; patterns -/
structure NewP where
 A : Option Addr
 c : Nat
 p : Pat
deriving Inhabited
def encP (x : NewP) : List Value:=[.slice x.A x.p.parts.length x.c,.bool x.p.rest]
def encH (x : NewP) : List Value:=[.slice x.A x.p.parts.length x.c,.bool x.p.rest,.string (bs (patText x.p))]
theorem encP_len (x : NewP) : (encP x).length = 2:=rfl
theorem encH_len (x : NewP) : (encH x).length = 3:=rfl
theorem encP_one (x : NewP) : ∀ u ∈ encP x,u.oneCell' = true:=by simp [encP,Value.oneCell']
theorem encH_one (x : NewP) : ∀ u ∈ encH x,u.oneCell' = true:=by simp [encH,Value.oneCell']
def EachN (w : World) (B : Nat) (l : List NewP) : Prop:=∀ x ∈ l,NewS w B x.A x.c x.p.parts
theorem EachN.calm {w w' : World} {B : Nat} {l : List NewP} (h : EachN w B l) (hc : Calm w w') : EachN w' B l:=fun x hx=>(h x hx).calm hc
theorem EachN.grown {w w' : World} {B : Nat} {l : List NewP} {g : Nat} (h : EachN w B l) (hk : ∃ cs,w.heap[g]? = some (.cells cs T (0,0))) (hT : 9 ≠ T) (hg : w.grownBy w' (some g)) : EachN w' B l:=fun x hx=>by
 have hx:=h x hx
 have hne : ∀ ad,x.A = some ad → some ad.block ≠ some g:=fun ad hA e=>by
  obtain ⟨cs,hh⟩:=hx.row ad hA
  obtain ⟨cs',hh'⟩:=hk
  injection e with e
  rw [e,hh'] at hh
  injection hh with hh
  injection hh with _ ht
  exact hT ht.symm
 refine ⟨⟨hx.u.len,hx.u.each,fun h0=>?_⟩,hx.room,hx.cap,hx.new,fun ad hA=>?_⟩
 ·obtain ⟨b,o,hA,hb,hkk⟩:=hx.u.at_ h0
  exact ⟨b,o,hA,Nat.lt_of_lt_of_le hb hg.size,fun k l hl=>hg.cell (hkk k l hl) (show some b ≠ some g from hne _ hA)⟩
 ·obtain ⟨cs,hh⟩:=hx.row ad hA
  exact ⟨cs,(hg.block _ (heap_lt hh) (hne ad hA)).trans hh⟩
theorem EachN.own {w w' : World} {B B0 n K : Nat} {v : Value} {T : TypeId} {xs : List Value} {l : List NewP} (h : EachN w B l) (hT : 9 ≠ T) (hown : w.ownsRow B0 T K v n xs) (hg : w.grownBy w' v.ownBlock) : EachN w' B l:=fun x hx=>(h x hx).grown hT hown hg
theorem info_patE : (Tryz.prog.info? 51).map (fun i=>(i.zero,i.size,i.bytes)) = some (some (.agg #[.slice none 0 0,.bool false]),2,32):=by kernel_rfl
theorem wpList_append_p {ops : Array Oper} {rest : List Oper} {o : Oper} {a : Act} {Q : Exit → Act → World → Prop} {w : World} (hgd : o.guard = none) (s x : Operand)
  (ho : o.op = .call { callee:=.builtin .append,args:=#[s,x],argTypes:=#[65,65] }) (w0 : World) (v : Value) (l : List NewP) (hs : a.eval s = v) (hown : OwnX encP 2 51 w0 w v l) (n c : Nat) (hx : a.eval x = .slice (some ⟨n,0,none⟩) 1 c) (y : NewP)
  (hrd : ∀ (j : Nat) u,(encP y)[j]? = some u → w.cell? ⟨n,j,none⟩ = some u) (hl : l.length ≤ 1000000)
  (h : ∀ v' w',OwnX encP 2 51 w0 w' v' (l ++ [y]) → w.grownBy w' v.ownBlock → wpList Tryz.prog ops Q rest (a.put o.dst v') w') : wpList Tryz.prog ops Q (o :: rest) a w:=by
 refine wpList_plain hgd fun _ hK=>?_
 obtain ⟨i0,hi0,hz0,hz1,hz2⟩:=info_parts info_patE
 obtain ⟨v',w',hr,h2,h3⟩:=run_append_x (P:=Tryz.prog) (ty:=o.type) (c:=c) (x:=y) Tryz.underlying65 hi0 hz0 hz1 hz2 rfl (by decide) encP_len encP_one hown hrd hl (by decide)
 unfold Oper.wp execOp
 simp only [ho,resolve,invoke,builtin,Sem.run_bind,Sem.run_pure,Result.andThen_ok,List.map_toArray,List.map_cons,List.map_nil,hs,hx]
 rw [hr]
 exact hK _ _ (h v' w' h2 h3)
end Go.Proofs.YtdcdabbepnahnaaGreatDoor
set_option linter.unusedVariables false
set_option linter.unusedSimpArgs false
namespace Go.Proofs.YtdcdabbepnahnaaGreatDoor
open Go Go.RowKit Sy

theorem join_a (ls : List Str) (A : Option Addr) (n c : Nat) (w : World) (h : StrsR w A ls) (h0 : 0 < ls.length) (hc : ls.length ≤ c) (hn : ls.length = n) :
  Calls Tryz.prog 120 #[.slice A n c,.string ⟨#[47]⟩] w fun e w'=>e = .returned (.string (bs (Lib.join ls [47]))) ∧ Calm w w':=by
 subst hn
 obtain ⟨b,o,rfl,hb,hk⟩:=h.at_ h0
 exact join_off_c ls b o c w hk hb hc (by have:=h.len;omega) (fun l hl=>by have:=h.each l hl;omega)
set_option maxHeartbeats 1000000 in
theorem text_c (p : Pat) (n c : Nat) (re : Bool) (A : Option Addr) (w : World) (hp : PatA w A c p) (h0 : 0 < p.parts.length) (hn : p.parts.length = n) (hre : p.rest = re) :
  Calls Tryz.prog 129 #[.agg #[.slice A n c,.bool re]] w fun e w'=>e = .returned (.string (bs (patText p))) ∧ Calm w w':=by
 obtain ⟨w1,hw1⟩ : ∃ w1,w1 = w.alloc (.cells #[.slice A n c,.bool re] 51):=⟨_,rfl⟩
 have hc1 : Calm w w1:=by rw [hw1];exact (Calm.refl w).alloc _
 have hs1 : w.heap.size < w1.heap.size:=by rw [hw1];simp
 have k1 : w1.cell? ⟨w.heap.size,1,none⟩ = some (.bool re):=by rw [hw1];simp [go_sem]
 have hj:=join_a p.parts A n c w1 (hp.calm hc1).r h0 hp.room hn
 have hjl:=join47_len (ls:=p.parts) (by have:=hp.r.len;omega) (fun l hl=>by have:=hp.r.each l hl;omega)
 have hv : Hid (bs (patText p) = if re then ⟨#[47,47]⟩ ++ bs (Lib.join p.parts [47]) ++ ⟨#[47,46,46,46]⟩ else ⟨#[47,47]⟩ ++ bs (Lib.join p.parts [47])):=by
  show _ = _
  unfold patText pathStr
  rw [hre]
  cases re
  ·simp only [Bool.false_eq_true,if_false,List.append_nil]
   exact bs_append [47,47] _
  ·simp only [if_true]
   rw [bs_append,show bs (47 :: 47 :: Lib.join p.parts [47]) = ⟨#[47,47]⟩ ++ bs (Lib.join p.parts [47]) from bs_append [47,47] _]
   rfl
 have HW:=Lib.hid hw1
 have HC:=Lib.hid hc1
 have HK:=Lib.hid k1
 clear hw1 hc1 hp hn hre k1 h0
 generalize Lib.join p.parts [47] = J at hj hjl hv
 have hsz:=bs_size J
 cases re with
 |false=>
  go_enter Tryz.func129,Tryz.ntmps129
  go_wp2_with (go_at_call 120;rw [← HW.out];refine hj.mono ?_;rintro e w2 ⟨rfl,hc2⟩;have k1:=hc2.at_ HK.out hs1)
  go_ret
  exact ⟨ret_str (by rw [hv.out];rfl),HC.out.trans hc2⟩
 |true=>
  go_enter Tryz.func129,Tryz.ntmps129
  go_wp2_with (go_at_call 120;rw [← HW.out];refine hj.mono ?_;rintro e w2 ⟨rfl,hc2⟩;have k1:=hc2.at_ HK.out hs1)
  go_ret
  exact ⟨ret_str (by rw [hv.out];rfl),HC.out.trans hc2⟩

structure BoxP (w1 : World) (B : Nat) (AX : Option Addr) (nx cx : Nat) (rx : Bool) (AY : Option Addr) (ny cy : Nat) (ry : Bool) : Prop where
 size : B + 2 ≤ w1.heap.size
 x0 : w1.cell? ⟨B,0,none⟩ = some (.slice AX nx cx)
 x1 : w1.cell? ⟨B,1,none⟩ = some (.bool rx)
 y0 : w1.cell? ⟨B + 1,0,none⟩ = some (.slice AY ny cy)
 y1 : w1.cell? ⟨B + 1,1,none⟩ = some (.bool ry)
theorem BoxP.calm {w1 w2 : World} {B : Nat} {AX : Option Addr} {nx cx : Nat} {rx : Bool} {AY : Option Addr} {ny cy : Nat} {ry : Bool} (h : BoxP w1 B AX nx cx rx AY ny cy ry) (hc : Calm w1 w2) : BoxP w2 B AX nx cx rx AY ny cy ry:=
 have h0 : B < w1.heap.size:=by have:=h.size;omega
 have h1 : B + 1 < w1.heap.size:=by have:=h.size;omega
 ⟨Nat.le_trans h.size hc.size,hc.at_ h.x0 h0,hc.at_ h.x1 h0,hc.at_ h.y0 h1,hc.at_ h.y1 h1⟩

set_option maxHeartbeats 4000000 in
theorem inside_c (p q : Pat) (v : Bool) (n m c c' : Nat) (re rf : Bool) (A A' : Option Addr) (w : World) (hp : PatA w A c p) (hq : PatA w A' c' q) (hn : p.parts.length = n) (hm : q.parts.length = m) (hre : p.rest = re) (hrf : q.rest = rf) (hv : insideP p q = v) :
  Calls Tryz.prog 136 #[.agg #[.slice A n c,.bool re],.agg #[.slice A' m c',.bool rf]] w fun e w'=>e = .returned (.bool v) ∧ Calm w w':=by
 have hnl:=hp.r.len
 have hml:=hq.r.len
 rw [hn] at hnl
 rw [hm] at hml
 obtain ⟨w1,hw1⟩ : ∃ w1,w1 = (w.alloc (.cells #[.slice A n c,.bool re] 51)).alloc (.cells #[.slice A' m c',.bool rf] 51):=⟨_,rfl⟩
 have hc1 : Calm w w1:=by rw [hw1];exact ((Calm.refl w).alloc _).alloc _
 have hbox : BoxP w1 w.heap.size A n c re A' m c' rf:=by
  rw [hw1]
  exact ⟨by simp,by simp [go_sem],by simp [go_sem],by simp [go_sem],by simp [go_sem]⟩
 have HLen : Hid (lenIn p q = if rf then (if re then decide (m ≤ n) else decide (m < n)) else (!re && n == m)):=by
  show lenIn p q = _
  unfold lenIn
  rw [hn,hm,hre,hrf]
 have hlt0 : w.heap.size < w1.heap.size:=by have:=hbox.size;omega
 have hlt1 : w.heap.size + 1 < w1.heap.size:=by have:=hbox.size;omega
 have q0:=fun W : CalmTo w1=>W.cell hbox.x0 hlt0
 have q1:=fun W : CalmTo w1=>W.cell hbox.x1 hlt0
 have q2:=fun W : CalmTo w1=>W.cell hbox.y0 hlt1
 have q3:=fun W : CalmTo w1=>W.cell hbox.y1 hlt1
 have HW:=Lib.hid hw1
 have HC:=Lib.hid hc1
 have HB:=Lib.hid hbox
 have HN:=Lib.hid (And.intro hn hm)
 have HP:=Lib.hid (hp.calm hc1)
 have HQ:=Lib.hid (hq.calm hc1)
 have HV:=Lib.hid hv
 clear hw1 hc1 hbox hn hm hre hrf hp hq hv hlt0 hlt1
 go_enter Tryz.func136,Tryz.ntmps136
 go_wp2_with fail
 rw [← HW.out]
 refine wp_region_calm (by kernel_rfl) (by kernel_rfl) ?_
 repeat (go_big_quiet_step (fail))
 refine wpQuiet_nil ?_
 intro w2 hc2
 have HB2:=Lib.hid (HB.out.calm hc2)
 have HC2:=Lib.hid hc2
 have x0:=HB2.out.x0
 have x1:=HB2.out.x1
 have y0:=HB2.out.y0
 have y1:=HB2.out.y1
 clear q0 q1 q2 q3 hc2
 by_cases hL : lenIn p q = true
 ·have hmn : m ≤ n:=by
   have:=HLen.out
   rw [hL] at this
   cases rf <;> cases re <;> simp at this <;> omega
  have h3 : rf = false → re = false ∧ n = m:=fun e=>by
   have:=HLen.out
   rw [hL,e] at this
   simpa using this
  have h4 : rf = true → re = false → m < n:=fun e e2=>by
   have:=HLen.out
   rw [hL,e,e2] at this
   simpa using this
  have HL:=Lib.hid hL
  clear hL
  have key : (rf = false ∧ re = false ∧ m = n) ∨ (rf = true ∧ re = false ∧ m < n) ∨ (rf = true ∧ re = true):=by
   cases rf
   ·exact .inl ⟨rfl,(h3 rfl).1,(h3 rfl).2.symm⟩
   ·cases re
    ·exact .inr (.inl ⟨rfl,rfl,h4 rfl rfl⟩)
    ·exact .inr (.inr ⟨rfl,rfl⟩)
  clear h3 h4
  have HMn:=Lib.hid hmn
  rcases key with ⟨rfl,rfl,hmn2⟩ | ⟨rfl,rfl,hlt⟩ | ⟨rfl,rfl⟩
  all_goals
   try (have hb1 : ((n : Int) != (m : Int)) = false:=by (simp;omega))
   try clear hmn2
   go_wp2_with fail
   go_loopw [50] (fun u wr=>∃ k : Nat,k ≤ m ∧ u = .int .i64 k ∧ Hid (∀ j,j < k → inside (pAt p j) (pAt q j) = true) ∧ Hid (Calm w1 wr)) (fun u _=>m - (intOf u).toNat)
   case atStart=>exact ⟨0,Nat.zero_le _,rfl,fun j hj=>absurd hj (Nat.not_lt_zero _),HC2.out⟩
   case round=>
    obtain ⟨k,hk,rfl,HI,HCr⟩:=hrel
    have HBr:=Lib.hid (HB.out.calm HCr.out)
    have x0:=HBr.out.x0
    by_cases hkm : k < m
    ·have hmn:=HMn.out
     have hkn : k < n:=by omega
     obtain ⟨b,o,y,rfl,hb,hy,hyl,hcy⟩:=(HQ.out.calm HCr.out).r.get (k:=k) (by rw [HN.out.2];exact hkm)
     obtain ⟨b',o',x,rfl,hb',hx,hxl,hcx⟩:=(HP.out.calm HCr.out).r.get (k:=k) (by rw [HN.out.1];exact hkn)
     obtain ⟨z,hz⟩ : ∃ z,inside x y = z:=⟨_,rfl⟩
     have hcall:=within_v x y z wr hxl hyl hz
     have hxe : x = pAt p k:=by
      rw [pAt_get (by rw [HN.out.1];exact hkn)] at hx
      exact (Option.some.inj hx).symm
     have hye : y = pAt q k:=by
      rw [pAt_get (by rw [HN.out.2];exact hkm)] at hy
      exact (Option.some.inj hy).symm
     have HZ : Hid (inside (pAt p k) (pAt q k) = z):=by
      show _ = _
      rw [← hxe,← hye]
      exact hz
     clear hx hy hxe hye hz
     cases z with
     |true=>
      go_wp2_with fail
      refine hcall.mono ?_
      rintro e w3 ⟨rfl,hc3⟩
      go_wp2
      go_roundw
      case rel=>
       refine ⟨k + 1,by omega,by go_num,fun j hj=>?_,HCr.out.trans hc3⟩
       by_cases e : j = k
       ·rw [e]
        exact HZ.out
       ·exact HI.out j (by omega)
      case measure=>simp [intOf];omega
     |false=>
      have hE : Hid (v = false):=by
       show v = false
       rw [← HV.out,insideP,Bool.and_eq_false_iff]
       refine .inr ?_
       rw [List.all_eq_false]
       exact ⟨k,List.mem_range.2 (by rw [HN.out.2];exact hkm),by rw [HZ.out];simp⟩
      go_wp2_with fail
      refine hcall.mono ?_
      rintro e w3 ⟨rfl,hc3⟩
      go_wp2
      go_ret
      exact ⟨ret_bool (by rw [hE.out]),HC.out.trans (HCr.out.trans hc3)⟩
    ·obtain rfl : k = m:=by omega
     have hE : Hid (v = true):=by
      show v = true
      rw [← HV.out,insideP,HL.out,Bool.true_and,List.all_eq_true]
      exact fun j hj=>HI.out j (by have:=List.mem_range.1 hj;rw [HN.out.2] at this;exact this)
     go_wp2
     go_ret
     exact ⟨ret_bool (by rw [hE.out]),HC.out.trans HCr.out⟩
 ·have hLf : lenIn p q = false:=by simpa using hL
  have hE : Hid (v = false):=by
   show v = false
   rw [← HV.out,insideP,hLf]
   rfl
  have key : (rf = false ∧ re = true) ∨ (rf = false ∧ re = false ∧ n ≠ m) ∨ (rf = true ∧ n < m) ∨ (rf = true ∧ re = false ∧ n = m):=by
   have h:=HLen.out
   rw [hLf] at h
   cases rf
   ·cases re
    ·refine .inr (.inl ⟨rfl,rfl,fun e=>?_⟩)
     rw [e] at h
     simp at h
    ·exact .inl ⟨rfl,rfl⟩
   ·cases re
    ·have h2 : ¬ m < n:=by simpa using h.symm
     by_cases h3 : n < m
     ·exact .inr (.inr (.inl ⟨rfl,h3⟩))
     ·exact .inr (.inr (.inr ⟨rfl,rfl,by omega⟩))
    ·have h2 : ¬ m ≤ n:=by simpa using h.symm
     exact .inr (.inr (.inl ⟨rfl,by omega⟩))
  clear hL hLf
  rcases key with ⟨rfl,rfl⟩ | ⟨rfl,rfl,hne⟩ | ⟨rfl,hlt⟩ | ⟨rfl,rfl,rfl⟩
  ·go_wp2
   go_ret
   exact ⟨ret_bool (by rw [hE.out]),HC.out.trans HC2.out⟩
  ·have hb1 : ((n : Int) != (m : Int)) = true:=by simp;omega
   clear hne
   go_wp2
   go_ret
   exact ⟨ret_bool (by rw [hE.out]),HC.out.trans HC2.out⟩
  ·by_cases hre : re = true
   ·subst hre
    go_wp2
    go_ret
    exact ⟨ret_bool (by rw [hE.out]),HC.out.trans HC2.out⟩
   ·obtain rfl : re = false:=by simpa using hre
    go_wp2
    go_ret
    exact ⟨ret_bool (by rw [hE.out]),HC.out.trans HC2.out⟩
  ·go_wp2
   go_ret
   exact ⟨ret_bool (by rw [hE.out]),HC.out.trans HC2.out⟩
end Go.Proofs.YtdcdabbepnahnaaGreatDoor
namespace Go.Proofs.YtdcdabbepnahnaaGreatDoor
open Go Go.RowKit Sy

theorem PatsR.get {w : World} {A : Option Addr} {ps : List Pat} (h : PatsR w A ps) {k : Nat} (hk : k < ps.length) : ∃ b o p Ak ck,A = some ⟨b,o,none⟩ ∧ b < w.heap.size ∧ ps[k]? = some p ∧ w.cell? ⟨b,o + k * 2,none⟩ = some (.slice Ak p.parts.length ck) ∧ w.cell? ⟨b,o + k * 2 + 1,none⟩ = some (.bool p.rest) ∧ p.parts.length ≤ ck ∧ ck ≤ 9223372036854775807 ∧ StrsR w Ak p.parts:=by
 obtain ⟨b,o,hA,hb,hc⟩:=h.at_ (by omega)
 obtain ⟨Ak,ck,h1,h2,h3,h4,h5⟩:=hc k _ (List.getElem?_eq_getElem hk)
 exact ⟨b,o,ps[k],Ak,ck,hA,hb,List.getElem?_eq_getElem hk,h1,h2,h3,h4,h5⟩
end Go.Proofs.YtdcdabbepnahnaaGreatDoor
set_option linter.unusedVariables false
set_option linter.unusedSimpArgs false
namespace Go.Proofs.YtdcdabbepnahnaaGreatDoor
open Go Go.RowKit Sy
structure SmallN (w : World) (B : Nat) (x : NewP) : Prop where
 new : NewS w B x.A x.c x.p.parts
 few : x.p.parts.length ≤ 16384
 each : ∀ l ∈ x.p.parts,l.length ≤ 16384
theorem SmallN.a {w : World} {B : Nat} {x : NewP} (h : SmallN w B x) : PatA w x.A x.c x.p:=⟨h.new.u.toR h.few h.each,h.new.room,h.new.cap⟩
theorem SmallN.calm {w w' : World} {B : Nat} {x : NewP} (h : SmallN w B x) (hc : Calm w w') : SmallN w' B x:=⟨h.new.calm hc,h.few,h.each⟩
theorem SmallN.own {w w' : World} {B : Nat} {x : NewP} (h : SmallN w B x) {B0 n K : Nat} {v : Value} {T : TypeId} {xs : List Value} (hT : 9 ≠ T) (hown : w.ownsRow B0 T K v n xs) (hg : w.grownBy w' v.ownBlock) : SmallN w' B x:=⟨h.new.grown hT hown hg,h.few,h.each⟩
theorem SmallN.mono {w : World} {B B' : Nat} {x : NewP} (h : SmallN w B x) (hB : B' ≤ B) : SmallN w B' x:=⟨h.new.mono hB,h.few,h.each⟩
theorem OwnX.shape {α : Type} {enc : α → List Value} {K : Nat} {T : TypeId} {w0 w : World} {v : Value} {l : List α} (h : OwnX enc K T w0 w v l) : ∃ A n c,v = .slice A n c:=by
 rcases h.own.2 with ⟨rfl,_⟩ | ⟨g,cap,cur,rfl,_⟩
 ·exact ⟨_,_,_,rfl⟩
 ·exact ⟨_,_,_,rfl⟩
theorem SmallN.set {w : World} {B : Nat} {x : NewP} (h : SmallN w B x) {p : Addr} (u : Value) (hp : p.block < B) : SmallN (w.setCell p u) B x:=⟨h.new.set u hp,h.few,h.each⟩
set_option maxHeartbeats 4000000 in
theorem meet_far (p q : Pat) (A A' : Option Addr) (c c' : Nat) (w : World) (hp : PatA w A c p) (hq : PatA w A' c' q) (ep : patErr p = 0) (eq : patErr q = 0) (hcm : compat p q = false) :
  Calls Tryz.prog 75 #[.agg #[.slice A p.parts.length c,.bool p.rest],.agg #[.slice A' q.parts.length c',.bool q.rest]] w fun e w'=>MeetEnd p q w.heap.size e w' ∧ Calm w w':=by
 obtain ⟨n,hn⟩ : ∃ n,p.parts.length = n:=⟨_,rfl⟩
 obtain ⟨m,hm⟩ : ∃ m,q.parts.length = m:=⟨_,rfl⟩
 obtain ⟨re,hre⟩ : ∃ re,p.rest = re:=⟨_,rfl⟩
 obtain ⟨rf,hrf⟩ : ∃ rf,q.rest = rf:=⟨_,rfl⟩
 have hnl:=hp.r.len
 have hml:=hq.r.len
 obtain ⟨w1,hw1⟩ : ∃ w1,w1 = ((w.alloc (.cells #[.slice A n c,.bool re] 51)).alloc (.cells #[.slice A' m c',.bool rf] 51)).alloc (.cells #[.slice none 0 0,.bool false] 51):=⟨_,rfl⟩
 have hc1 : Calm w w1:=by rw [hw1];exact (((Calm.refl w).alloc _).alloc _).alloc _
 have hbox : Box3 w1 w.heap.size A n c re A' m c' rf:=by
  rw [hw1]
  exact ⟨by simp,by simp [go_sem],by simp [go_sem],by simp [go_sem],by simp [go_sem],by simp [go_sem],by simp [go_sem],fun o=>by simp [go_sem],fun o=>by simp [go_sem],fun o=>by simp [go_sem]⟩
 have KP : Hid (∀ W,Calm w1 W → Calls Tryz.prog 110 #[.agg #[.slice A n c,.bool re]] W fun e w'=>e = .returned (.int .i64 0) ∧ Calm W w'):=fun W hW=>checkA_c p n c re A W ((hp.calm hc1).calm hW) ep hn hre
 have KQ : Hid (∀ W,Calm w1 W → Calls Tryz.prog 110 #[.agg #[.slice A' m c',.bool rf]] W fun e w'=>e = .returned (.int .i64 0) ∧ Calm W w'):=fun W hW=>checkA_c q m c' rf A' W ((hq.calm hc1).calm hW) eq hm hrf
 rw [hn] at hnl
 rw [hm] at hml
 have KM : Hid (∀ W,Calls Tryz.prog 111 #[.int .i64 n,.bool re,.int .i64 m,.bool rf] W fun e w'=>e = .returned (.bool false) ∧ W = w'):=fun W=>compat_c n m re rf false W (by omega) (by omega) (by rw [← hn,← hm,← hre,← hrf];exact hcm)
 have hE:=Lib.hid (meetL_far hcm)
 rw [hn,hm,hre,hrf]
 have HW:=Lib.hid hw1
 have HC:=Lib.hid hc1
 have HB:=Lib.hid hbox
 clear hw1 hc1 hbox hn hm hre hrf hp hq ep eq hcm
 go_enter Tryz.func75,Tryz.ntmps75
 go_wp2_with fail
 rw [← HW.out]
 refine (KP.out w1 (Calm.refl _)).mono ?_
 rintro e w2 ⟨rfl,hc2⟩
 have b2:=HB.out.calm hc2
 have y0:=b2.y0
 have y1:=b2.y1
 clear b2
 go_wp2_with fail
 refine (KQ.out w2 hc2).mono ?_
 rintro e w3 ⟨rfl,hc3⟩
 have HB3:=Lib.hid (HB.out.calm (hc2.trans hc3))
 have x0:=HB3.out.x0
 have x1:=HB3.out.x1
 have y0:=HB3.out.y0
 have y1:=HB3.out.y1
 have z0:=HB3.out.z0
 have z1:=HB3.out.z1
 have f0:=HB3.out.fz 0
 have f1:=HB3.out.fz 1
 go_wp2_with fail
 refine (KM.out w3).mono ?_
 rintro e w4 ⟨rfl,rfl⟩
 have hc8 : Calm w ((w3.setCell ⟨w.heap.size + 2,0,none⟩ (.slice none 0 0)).setCell ⟨w.heap.size + 2,1,none⟩ (.bool false)):=Below.setCell (Below.setCell (HC.out.trans (hc2.trans hc3)) (by show w.heap.size ≤ w.heap.size + 2;omega) _) (by show w.heap.size ≤ w.heap.size + 2;omega) _
 clear hc2 hc3
 go_wp2
 refine bodyPost_ret (v:=.tuple #[.agg #[.slice none 0 0,.bool false],.bool false]) ?_ rfl ⟨.inr ⟨hE.out,rfl⟩,hc8⟩
 rw [results_cell_slot rfl]
 go_simp
theorem meet_c (p q : Pat) (A A' : Option Addr) (c c' : Nat) (w : World) (hp : PatA w A c p) (hq : PatA w A' c' q) (ep : patErr p = 0) (eq : patErr q = 0) :
  Calls Tryz.prog 75 #[.agg #[.slice A p.parts.length c,.bool p.rest],.agg #[.slice A' q.parts.length c',.bool q.rest]] w fun e w'=>MeetEnd p q w.heap.size e w' ∧ Calm w w':=by
 rcases hcm : compat p q with _ | _
 ·exact meet_far p q A A' c c' w hp hq ep eq hcm
 rcases Nat.lt_or_ge p.parts.length q.parts.length with h | h
 ·exact meet_short p q A A' c c' w hp hq ep eq h hcm
 ·exact meet_long p q A A' c c' w hp hq ep eq h hcm
theorem meet_yes (p q m : Pat) (A A' : Option Addr) (c c' : Nat) (w : World) (hp : PatA w A c p) (hq : PatA w A' c' q) (ep : patErr p = 0) (eq : patErr q = 0) (hm : meetP p q = some m) :
  Calls Tryz.prog 75 #[.agg #[.slice A p.parts.length c,.bool p.rest],.agg #[.slice A' q.parts.length c',.bool q.rest]] w fun e w'=>(∃ A2 c2,e = .returned (.tuple #[.agg #[.slice A2 m.parts.length c2,.bool m.rest],.bool true]) ∧ SmallN w' w.heap.size ⟨A2,c2,m⟩) ∧ Calm w w':=by
 rw [meetP,if_pos ⟨ep,eq⟩] at hm
 refine (meet_c p q A A' c c' w hp hq ep eq).mono fun e w' ⟨h1,h2⟩=>⟨?_,h2⟩
 rcases h1 with ⟨m',A2,c2,h3,h4,h5⟩ | ⟨h3,_⟩
 ·rw [hm] at h3
  obtain rfl : m = m':=Option.some.inj h3
  have hok:=(patErr_iff.1 (meetL_good ep eq hm)).2.2.1
  refine ⟨A2,c2,h4,h5,by show m.parts.length ≤ 16384;omega,fun x hx=>?_⟩
  obtain ⟨rfl,_,_⟩:=meetL_some hm
  obtain ⟨j,hj,rfl⟩:=List.mem_map.1 hx
  have hjm:=List.mem_range.1 hj
  have hat : ∀ (r : Pat),(∀ l ∈ r.parts,l.length ≤ 16384) → (pAt r j).length ≤ 16384:=fun r hr=>by
   by_cases hjr : j < r.parts.length
   ·exact hr _ (List.mem_of_getElem? (pAt_get hjr))
   ·rw [pAt_out (by omega)]
    decide
  rcases mPart_or (pAt p j) (pAt q j) with e | e <;> rw [e]
  ·exact hat p hp.r.each
  ·exact hat q hq.r.each
 ·rw [hm] at h3
  cases h3
theorem meet_no (p q : Pat) (A A' : Option Addr) (c c' : Nat) (w : World) (hp : PatA w A c p) (hq : PatA w A' c' q) (ep : patErr p = 0) (eq : patErr q = 0) (hm : meetP p q = none) :
  Calls Tryz.prog 75 #[.agg #[.slice A p.parts.length c,.bool p.rest],.agg #[.slice A' q.parts.length c',.bool q.rest]] w fun e w'=>e = .returned (.tuple #[.agg #[.slice none 0 0,.bool false],.bool false]) ∧ Calm w w':=by
 rw [meetP,if_pos ⟨ep,eq⟩] at hm
 refine (meet_c p q A A' c c' w hp hq ep eq).mono fun e w' ⟨h1,h2⟩=>⟨?_,h2⟩
 rcases h1 with ⟨m',A2,c2,h3,h4,h5⟩ | ⟨_,h4⟩
 ·rw [hm] at h3
  cases h3
 ·exact h4
structure PatsN (w : World) (B : Nat) (A : Option Addr) (c : Nat) (ps : List Pat) : Prop where
 ex : ∃ l : List NewP,l.map (·.p) = ps ∧ ((A = none ∧ ps = []) ∨ ∃ g,A = some ⟨g,0,none⟩ ∧ B ≤ g ∧ RowX encP 2 51 w g 0 l) ∧ ∀ x ∈ l,SmallN w B x
 room : ps.length ≤ c
 cap : c ≤ 9223372036854775807
end Go.Proofs.YtdcdabbepnahnaaGreatDoor
