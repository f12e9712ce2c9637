/- Walks: the text of a pattern; Inside. -/
import Derived.Test.YthopphabeddnfaaGreatDoorZMeetW
set_option linter.unusedVariables false
set_option linter.unusedSimpArgs false
namespace Go.Proofs.YthopphabeddnfaaGreatDoor
open Go Go.RowKit Sy

theorem join_a (ls : List Str) (A : Option Addr) (n c : Nat) (w : World) (h : StrsR w A ls) (h0 : 0 < ls.length) (hc : ls.length ≤ c) (hn : ls.length = n) :
  Calls Tryz.prog 64 #[.slice A n c,.string ⟨#[47]⟩] w fun e w'=>e = .returned (.string (bs (Lib.join ls [47]))) ∧ Calm w w':=by
 subst hn
 obtain ⟨b,o,rfl,hb,hk⟩:=h.at_ h0
 exact join_off_c ls b o c w hk hb hc (by have:=h.len;omega) (fun l hl=>by have:=h.each l hl;omega)
set_option maxHeartbeats 1000000 in
theorem text_c (p : Pat) (n c : Nat) (re : Bool) (A : Option Addr) (w : World) (hp : PatA w A c p) (h0 : 0 < p.parts.length) (hn : p.parts.length = n) (hre : p.rest = re) :
  Calls Tryz.prog 37 #[.agg #[.slice A n c,.bool re]] w fun e w'=>e = .returned (.string (bs (patText p))) ∧ Calm w w':=by
 obtain ⟨w1,hw1⟩ : ∃ w1,w1 = w.alloc (.cells #[.slice A n c,.bool re] 37):=⟨_,rfl⟩
 have hc1 : Calm w w1:=by rw [hw1];exact (Calm.refl w).alloc _
 have hs1 : w.heap.size < w1.heap.size:=by rw [hw1];simp
 have k1 : w1.cell? ⟨w.heap.size,1,none⟩ = some (.bool re):=by rw [hw1];simp [go_sem]
 have hj:=join_a p.parts A n c w1 (hp.calm hc1).r h0 hp.room hn
 have hjl:=join47_len (ls:=p.parts) (by have:=hp.r.len;omega) (fun l hl=>by have:=hp.r.each l hl;omega)
 have hv : Hid (bs (patText p) = if re then ⟨#[47,47]⟩ ++ bs (Lib.join p.parts [47]) ++ ⟨#[47,46,46,46]⟩ else ⟨#[47,47]⟩ ++ bs (Lib.join p.parts [47])):=by
  show _ = _
  unfold patText pathStr
  rw [hre]
  cases re
  ·simp only [Bool.false_eq_true,if_false,List.append_nil]
   exact bs_append [47,47] _
  ·simp only [if_true]
   rw [bs_append,show bs (47 :: 47 :: Lib.join p.parts [47]) = ⟨#[47,47]⟩ ++ bs (Lib.join p.parts [47]) from bs_append [47,47] _]
   rfl
 have HW:=Lib.hid hw1
 have HC:=Lib.hid hc1
 have HK:=Lib.hid k1
 clear hw1 hc1 hp hn hre k1 h0
 generalize Lib.join p.parts [47] = J at hj hjl hv
 have hsz:=bs_size J
 cases re with
 |false=>
  go_enter Tryz.func37,Tryz.ntmps37
  go_wp2_with (go_at_call 64;rw [← HW.out];refine hj.mono ?_;rintro e w2 ⟨rfl,hc2⟩;have k1:=hc2.at_ HK.out hs1)
  go_ret
  exact ⟨ret_str (by rw [hv.out];rfl),HC.out.trans hc2⟩
 |true=>
  go_enter Tryz.func37,Tryz.ntmps37
  go_wp2_with (go_at_call 64;rw [← HW.out];refine hj.mono ?_;rintro e w2 ⟨rfl,hc2⟩;have k1:=hc2.at_ HK.out hs1)
  go_ret
  exact ⟨ret_str (by rw [hv.out];rfl),HC.out.trans hc2⟩

structure BoxP (w1 : World) (B : Nat) (AX : Option Addr) (nx cx : Nat) (rx : Bool) (AY : Option Addr) (ny cy : Nat) (ry : Bool) : Prop where
 size : B + 2 ≤ w1.heap.size
 x0 : w1.cell? ⟨B,0,none⟩ = some (.slice AX nx cx)
 x1 : w1.cell? ⟨B,1,none⟩ = some (.bool rx)
 y0 : w1.cell? ⟨B + 1,0,none⟩ = some (.slice AY ny cy)
 y1 : w1.cell? ⟨B + 1,1,none⟩ = some (.bool ry)
theorem BoxP.calm {w1 w2 : World} {B : Nat} {AX : Option Addr} {nx cx : Nat} {rx : Bool} {AY : Option Addr} {ny cy : Nat} {ry : Bool} (h : BoxP w1 B AX nx cx rx AY ny cy ry) (hc : Calm w1 w2) : BoxP w2 B AX nx cx rx AY ny cy ry:=
 have h0 : B < w1.heap.size:=by have:=h.size;omega
 have h1 : B + 1 < w1.heap.size:=by have:=h.size;omega
 ⟨Nat.le_trans h.size hc.size,hc.at_ h.x0 h0,hc.at_ h.x1 h0,hc.at_ h.y0 h1,hc.at_ h.y1 h1⟩

set_option maxHeartbeats 4000000 in
theorem inside_c (p q : Pat) (v : Bool) (n m c c' : Nat) (re rf : Bool) (A A' : Option Addr) (w : World) (hp : PatA w A c p) (hq : PatA w A' c' q) (hn : p.parts.length = n) (hm : q.parts.length = m) (hre : p.rest = re) (hrf : q.rest = rf) (hv : insideP p q = v) :
  Calls Tryz.prog 44 #[.agg #[.slice A n c,.bool re],.agg #[.slice A' m c',.bool rf]] w fun e w'=>e = .returned (.bool v) ∧ Calm w w':=by
 have hnl:=hp.r.len
 have hml:=hq.r.len
 rw [hn] at hnl
 rw [hm] at hml
 obtain ⟨w1,hw1⟩ : ∃ w1,w1 = (w.alloc (.cells #[.slice A n c,.bool re] 37)).alloc (.cells #[.slice A' m c',.bool rf] 37):=⟨_,rfl⟩
 have hc1 : Calm w w1:=by rw [hw1];exact ((Calm.refl w).alloc _).alloc _
 have hbox : BoxP w1 w.heap.size A n c re A' m c' rf:=by
  rw [hw1]
  exact ⟨by simp,by simp [go_sem],by simp [go_sem],by simp [go_sem],by simp [go_sem]⟩
 have HLen : Hid (lenIn p q = if rf then (if re then decide (m ≤ n) else decide (m < n)) else (!re && n == m)):=by
  show lenIn p q = _
  unfold lenIn
  rw [hn,hm,hre,hrf]
 have hlt0 : w.heap.size < w1.heap.size:=by have:=hbox.size;omega
 have hlt1 : w.heap.size + 1 < w1.heap.size:=by have:=hbox.size;omega
 have q0:=fun W : CalmTo w1=>W.cell hbox.x0 hlt0
 have q1:=fun W : CalmTo w1=>W.cell hbox.x1 hlt0
 have q2:=fun W : CalmTo w1=>W.cell hbox.y0 hlt1
 have q3:=fun W : CalmTo w1=>W.cell hbox.y1 hlt1
 have HW:=Lib.hid hw1
 have HC:=Lib.hid hc1
 have HB:=Lib.hid hbox
 have HN:=Lib.hid (And.intro hn hm)
 have HP:=Lib.hid (hp.calm hc1)
 have HQ:=Lib.hid (hq.calm hc1)
 have HV:=Lib.hid hv
 clear hw1 hc1 hbox hn hm hre hrf hp hq hv hlt0 hlt1
 go_enter Tryz.func44,Tryz.ntmps44
 go_wp2_with fail
 rw [← HW.out]
 refine wp_region_calm (by kernel_rfl) (by kernel_rfl) ?_
 repeat (go_big_quiet_step (fail))
 refine wpQuiet_nil ?_
 intro w2 hc2
 have HB2:=Lib.hid (HB.out.calm hc2)
 have HC2:=Lib.hid hc2
 have x0:=HB2.out.x0
 have x1:=HB2.out.x1
 have y0:=HB2.out.y0
 have y1:=HB2.out.y1
 clear q0 q1 q2 q3 hc2
 by_cases hL : lenIn p q = true
 ·have hmn : m ≤ n:=by
   have:=HLen.out
   rw [hL] at this
   cases rf <;> cases re <;> simp at this <;> omega
  have h3 : rf = false → re = false ∧ n = m:=fun e=>by
   have:=HLen.out
   rw [hL,e] at this
   simpa using this
  have h4 : rf = true → re = false → m < n:=fun e e2=>by
   have:=HLen.out
   rw [hL,e,e2] at this
   simpa using this
  have HL:=Lib.hid hL
  clear hL
  have key : (rf = false ∧ re = false ∧ m = n) ∨ (rf = true ∧ re = false ∧ m < n) ∨ (rf = true ∧ re = true):=by
   cases rf
   ·exact .inl ⟨rfl,(h3 rfl).1,(h3 rfl).2.symm⟩
   ·cases re
    ·exact .inr (.inl ⟨rfl,rfl,h4 rfl rfl⟩)
    ·exact .inr (.inr ⟨rfl,rfl⟩)
  clear h3 h4
  have HMn:=Lib.hid hmn
  rcases key with ⟨rfl,rfl,hmn2⟩ | ⟨rfl,rfl,hlt⟩ | ⟨rfl,rfl⟩
  all_goals
   try (have hb1 : ((n : Int) != (m : Int)) = false:=by (simp;omega))
   try clear hmn2
   go_wp2_with fail
   go_loopw [50] (fun u wr=>∃ k : Nat,k ≤ m ∧ u = .int .i64 k ∧ Hid (∀ j,j < k → inside (pAt p j) (pAt q j) = true) ∧ Hid (Calm w1 wr)) (fun u _=>m - (intOf u).toNat)
   case atStart=>exact ⟨0,Nat.zero_le _,rfl,fun j hj=>absurd hj (Nat.not_lt_zero _),HC2.out⟩
   case round=>
    obtain ⟨k,hk,rfl,HI,HCr⟩:=hrel
    have HBr:=Lib.hid (HB.out.calm HCr.out)
    have x0:=HBr.out.x0
    by_cases hkm : k < m
    ·have hmn:=HMn.out
     have hkn : k < n:=by omega
     obtain ⟨b,o,y,rfl,hb,hy,hyl,hcy⟩:=(HQ.out.calm HCr.out).r.get (k:=k) (by rw [HN.out.2];exact hkm)
     obtain ⟨b',o',x,rfl,hb',hx,hxl,hcx⟩:=(HP.out.calm HCr.out).r.get (k:=k) (by rw [HN.out.1];exact hkn)
     obtain ⟨z,hz⟩ : ∃ z,inside x y = z:=⟨_,rfl⟩
     have hcall:=within_v x y z wr hxl hyl hz
     have hxe : x = pAt p k:=by
      rw [pAt_get (by rw [HN.out.1];exact hkn)] at hx
      exact (Option.some.inj hx).symm
     have hye : y = pAt q k:=by
      rw [pAt_get (by rw [HN.out.2];exact hkm)] at hy
      exact (Option.some.inj hy).symm
     have HZ : Hid (inside (pAt p k) (pAt q k) = z):=by
      show _ = _
      rw [← hxe,← hye]
      exact hz
     clear hx hy hxe hye hz
     cases z with
     |true=>
      go_wp2_with fail
      refine hcall.mono ?_
      rintro e w3 ⟨rfl,hc3⟩
      go_wp2
      go_roundw
      case rel=>
       refine ⟨k + 1,by omega,by go_num,fun j hj=>?_,HCr.out.trans hc3⟩
       by_cases e : j = k
       ·rw [e]
        exact HZ.out
       ·exact HI.out j (by omega)
      case measure=>simp [intOf];omega
     |false=>
      have hE : Hid (v = false):=by
       show v = false
       rw [← HV.out,insideP,Bool.and_eq_false_iff]
       refine .inr ?_
       rw [List.all_eq_false]
       exact ⟨k,List.mem_range.2 (by rw [HN.out.2];exact hkm),by rw [HZ.out];simp⟩
      go_wp2_with fail
      refine hcall.mono ?_
      rintro e w3 ⟨rfl,hc3⟩
      go_wp2
      go_ret
      exact ⟨ret_bool (by rw [hE.out]),HC.out.trans (HCr.out.trans hc3)⟩
    ·obtain rfl : k = m:=by omega
     have hE : Hid (v = true):=by
      show v = true
      rw [← HV.out,insideP,HL.out,Bool.true_and,List.all_eq_true]
      exact fun j hj=>HI.out j (by have:=List.mem_range.1 hj;rw [HN.out.2] at this;exact this)
     go_wp2
     go_ret
     exact ⟨ret_bool (by rw [hE.out]),HC.out.trans HCr.out⟩
 ·have hLf : lenIn p q = false:=by simpa using hL
  have hE : Hid (v = false):=by
   show v = false
   rw [← HV.out,insideP,hLf]
   rfl
  have key : (rf = false ∧ re = true) ∨ (rf = false ∧ re = false ∧ n ≠ m) ∨ (rf = true ∧ n < m) ∨ (rf = true ∧ re = false ∧ n = m):=by
   have h:=HLen.out
   rw [hLf] at h
   cases rf
   ·cases re
    ·refine .inr (.inl ⟨rfl,rfl,fun e=>?_⟩)
     rw [e] at h
     simp at h
    ·exact .inl ⟨rfl,rfl⟩
   ·cases re
    ·have h2 : ¬ m < n:=by simpa using h.symm
     by_cases h3 : n < m
     ·exact .inr (.inr (.inl ⟨rfl,h3⟩))
     ·exact .inr (.inr (.inr ⟨rfl,rfl,by omega⟩))
    ·have h2 : ¬ m ≤ n:=by simpa using h.symm
     exact .inr (.inr (.inl ⟨rfl,by omega⟩))
  clear hL hLf
  rcases key with ⟨rfl,rfl⟩ | ⟨rfl,rfl,hne⟩ | ⟨rfl,hlt⟩ | ⟨rfl,rfl,rfl⟩
  ·go_wp2
   go_ret
   exact ⟨ret_bool (by rw [hE.out]),HC.out.trans HC2.out⟩
  ·have hb1 : ((n : Int) != (m : Int)) = true:=by simp;omega
   clear hne
   go_wp2
   go_ret
   exact ⟨ret_bool (by rw [hE.out]),HC.out.trans HC2.out⟩
  ·by_cases hre : re = true
   ·subst hre
    go_wp2
    go_ret
    exact ⟨ret_bool (by rw [hE.out]),HC.out.trans HC2.out⟩
   ·obtain rfl : re = false:=by simpa using hre
    go_wp2
    go_ret
    exact ⟨ret_bool (by rw [hE.out]),HC.out.trans HC2.out⟩
  ·go_wp2
   go_ret
   exact ⟨ret_bool (by rw [hE.out]),HC.out.trans HC2.out⟩
end Go.Proofs.YthopphabeddnfaaGreatDoor
