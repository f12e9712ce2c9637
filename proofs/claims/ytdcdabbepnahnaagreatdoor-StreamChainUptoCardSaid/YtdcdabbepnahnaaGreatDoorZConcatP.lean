/- Walk: slices.Concat of two slices of patterns. -/
import Derived.Lib.AppendZeros
import Derived.Lib.SliceRun
import Derived.IntWalk
import Derived.Deep.RegionHeld3
import Derived.Deep.RegionWith
import Derived.Test.YtdcdabbepnahnaaGreatDoorZRowG
set_option linter.unusedVariables false
set_option linter.unusedSimpArgs false
namespace Go.Proofs.YtdcdabbepnahnaaGreatDoor
open Go Go.RowKit Sy
theorem own_room {w : World} {cur : Array Value} {cap : Nat} (hm : cap ≤ maxLen) (hs : cur.size = cap * 2) : OwnX encP 2 51 w (w.drew.alloc (.cells cur 51)) (.slice (some ⟨w.heap.size,0,none⟩) 0 cap) []:=
 ⟨Below.alloc (Below.drew (Calm.refl w)) (Below.drew (Calm.refl w)).size _,by
  have:=World.ownsRow_made (base:=w.heap.size) (e:=51) (size:=2) w.drew cur cap (Nat.le_refl _) hm hs
  exact this⟩
def GrowEnd (w : World) (e : Ending) (w' : World) : Prop:=∃ A c,e = .returned (.slice A 0 c) ∧ OwnX encP 2 51 w w' (.slice A 0 c) []
set_option maxRecDepth 100000 in
set_option maxHeartbeats 2000000 in
theorem grow_c (n : Nat) (w : World) (hn : n ≤ 1000000) : Calls Tryz.prog 115 #[.slice none 0 0,.int .i64 n] w fun e w'=>GrowEnd w e w':=by
 rcases Nat.eq_zero_or_pos n with rfl | h0
 ·go_enter Tryz.func115,Tryz.ntmps115
  go_wp2
  go_ret
  exact ⟨none,0,rfl,OwnX.nil (Calm.refl w)⟩
 ·obtain ⟨i0,hi0,hz0,hz1,hz2⟩:=info_parts info_patE
  have hr:=fun ty=>Lib.run_append_nil_zeros (P:=Tryz.prog) w 65 3 ty 51 i0 _ .i64 .i64 Tryz.underlying65 Tryz.underlying3 hi0 hz0 n h0 (by rw [hz1];decide) (by omega) (by rw [hz2];omega)
  have hge:=grownCap_ge w n 0 51
  have hle:=grownCap_le_maxLen w n 0 51 (by unfold maxLen;omega)
  obtain ⟨G,hG⟩ : ∃ G,grownCap w n 0 51 = G:=⟨_,rfl⟩
  rw [hG] at hge hle hr
  obtain ⟨cur,hcur⟩ : ∃ cur,cur = Builtin.zeroCells (Value.agg #[.slice none 0 0,.bool false]).cells n ++ Builtin.zeroCells (Value.agg #[.slice none 0 0,.bool false]).cells (G - n):=⟨_,rfl⟩
  have hcs : cur.size = G * 2:=by
   rw [hcur]
   simp [Builtin.zeroCells,Value.cells]
   omega
  rw [← hcur] at hr
  have HO:=Lib.hid (own_room (w:=w) (cur:=cur) hle hcs)
  have hG63 : G ≤ 9223372036854775807:=by unfold maxLen at hle;omega
  clear hG hcur hcs hle
  go_enter Tryz.func115,Tryz.ntmps115
  go_wp2_with (at_builtin;refine Lib.wpList_append_run _ rfl _ _ _ _ rfl _ _ rfl rfl _ _ (hr _) ?_)
  go_ret
  exact ⟨_,_,rfl,HO.out⟩
def CatEnd (ps : List Pat) (w : World) (e : Ending) (w' : World) : Prop:=∃ A c,e = .returned (.slice A ps.length c) ∧ PatsR w' A ps
set_option maxHeartbeats 4000000 in
theorem concat_c (ps qs : List Pat) (A A' : Option Addr) (n m c c' : Nat) (g cc : Nat) (w : World) (hp : PatsR w A ps) (hq : PatsR w A' qs) (hn : ps.length = n) (hm : qs.length = m) (hl : n + m ≤ 16384)
  (k0 : w.cell? ⟨g,0,none⟩ = some (.slice A n c)) (k1 : w.cell? ⟨g,1,none⟩ = some (.slice A' m c')) (hg : g < w.heap.size) :
  Calls Tryz.prog 77 #[.slice (some ⟨g,0,none⟩) 2 cc] w fun e w'=>CatEnd (ps ++ qs) w e w' ∧ Calm w w':=by
 obtain ⟨lp,hlp,hX⟩:=hp.places
 obtain ⟨lq,hlq,hY⟩:=hq.places
 have e1 : lp.length = n:=by rw [← hn,← hlp,List.length_map]
 have e2 : lq.length = m:=by rw [← hm,← hlq,List.length_map]
 have HX:=Lib.hid (And.intro hX (And.intro hY (And.intro e1 e2)))
 have HL:=Lib.hid (And.intro hlp hlq)
 have KG:=Lib.hid (fun W=>grow_c (n + m) W (by omega))
 have z1 : IntKind.i64.wrap ((0 : Int) + (n : Int)) = (n : Int):=IntWalk.i64_in _ (by omega) |>.trans (by omega)
 have z2 : IntKind.i64.wrap ((n : Int) + (m : Int)) = ((n + m : Nat) : Int):=by rw [IntWalk.i64_in _ (by omega)];omega
 have HK:=Lib.hid (And.intro k0 (And.intro k1 hg))
 clear hp hq hX hY e1 e2 hlp hlq hn hm
 go_enter Tryz.func77,Tryz.ntmps77
 go_wp2_with fail
 go_loopw [3,11] (fun s i wr=>w = wr ∧ ((i = .int .i64 0 ∧ s = .int .i64 0) ∨ (i = .int .i64 1 ∧ s = .int .i64 n) ∨ (i = .int .i64 2 ∧ s = .int .i64 ((n + m : Nat) : Int)))) (fun _ i _=>2 - (intOf i).toNat)
 case atStart=>exact ⟨rfl,.inl ⟨rfl,rfl⟩⟩
 case round=>
  obtain ⟨rfl,hrel⟩:=hrel
  rcases hrel with ⟨rfl,rfl⟩ | ⟨rfl,rfl⟩ | ⟨rfl,rfl⟩
  ·go_wp2
   go_roundw
   case rel=>exact ⟨trivial,.inr (.inl ⟨by go_num,by go_num⟩)⟩
   case measure=>simp [intOf]
  ·go_wp2
   go_roundw
   case rel=>exact ⟨trivial,.inr (.inr ⟨by go_num,by go_num⟩)⟩
   case measure=>simp [intOf]
  ·go_wp2_with (go_at_call 115;refine (KG.out _).mono ?_;rintro e w2 ⟨AG,cG,rfl,hOG⟩)
   have HOG:=Lib.hid hOG
   clear hOG z1 z2 k0 k1
   go_loopw [6,27] (fun s i wr=>(i = .int .i64 0 ∧ Hid (OwnX encP 2 51 w wr s [])) ∨ (i = .int .i64 1 ∧ Hid (OwnX encP 2 51 w wr s lp)) ∨ (i = .int .i64 2 ∧ Hid (OwnX encP 2 51 w wr s (lp ++ lq)))) (fun _ i _=>2 - (intOf i).toNat)
   case atStart=>exact .inl ⟨rfl,HOG.out⟩
   case round=>
    rcases hrel with ⟨rfl,HO⟩ | ⟨rfl,HO⟩ | ⟨rfl,HO⟩
    ·have k0:=Calm.at_ HO.out.calm HK.out.1 HK.out.2.2
     have hgr:=Nat.lt_of_lt_of_le HK.out.2.2 HO.out.calm.size
     go_wp2_with (at_builtin;refine wpList_append_ps rfl (.tmp 31) (.tmp 32) rfl w u6 [] lp rfl HO.out A n c rfl HX.out.2.2.1 (HX.out.1.read.calm HO.out.calm) (by simp;omega) ?_;intro v6 w6 hown6 hgr6)
     have H6:=Lib.hid hown6
     clear hown6 hgr6 k0 hgr
     go_wp2
     go_roundw
     case rel=>exact .inr (.inl ⟨by go_num,Lib.hid (by simpa using H6.out)⟩)
     case measure=>simp [intOf]
    ·have k1:=Calm.at_ HO.out.calm HK.out.2.1 HK.out.2.2
     have hgr:=Nat.lt_of_lt_of_le HK.out.2.2 HO.out.calm.size
     go_wp2_with (at_builtin;refine wpList_append_ps rfl (.tmp 31) (.tmp 32) rfl w u6 lp lq rfl HO.out A' m c' rfl HX.out.2.2.2 (HX.out.2.1.read.calm HO.out.calm) (by rw [HX.out.2.2.1];omega) ?_;intro v6 w6 hown6 hgr6)
     have H6:=Lib.hid hown6
     clear hown6 hgr6 k1 hgr
     go_wp2
     go_roundw
     case rel=>exact .inr (.inr ⟨by go_num,H6.out⟩)
     case measure=>simp [intOf]
    ·have he : ∀ x ∈ lp ++ lq,PatA wr x.A x.c x.p:=fun x hx=>by
      rcases List.mem_append.1 hx with h | h
      ·exact (HX.out.1.each x h).calm HO.out.calm
      ·exact (HX.out.2.1.each x h).calm HO.out.calm
     obtain ⟨A9,c9,rfl,_,_,hX9⟩:=HO.out.places he
     have hlen : (lp ++ lq).length = n + m:=by rw [List.length_append,HX.out.2.2.1,HX.out.2.2.2]
     have hE : Hid (CatEnd (ps ++ qs) w (.returned (.slice A9 (n + m) c9)) wr):=by
      refine ⟨A9,c9,?_,?_⟩
      ·rw [← hlen,← HL.out.1,← HL.out.2,← List.map_append,List.length_map]
      ·have:=hX9.reads (by rw [hlen];omega)
       rw [List.map_append,HL.out.1,HL.out.2] at this
       exact this
     rw [hlen]
     have HC:=Lib.hid HO.out.calm
     clear hlen he hX9
     go_wp2
     go_ret
     exact ⟨hE.out,HC.out⟩
end Go.Proofs.YtdcdabbepnahnaaGreatDoor
