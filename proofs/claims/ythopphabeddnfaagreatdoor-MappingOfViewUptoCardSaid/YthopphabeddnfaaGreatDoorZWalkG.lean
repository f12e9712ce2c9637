/- Walks: a part within a part. -/
import Derived.Deep.QuietTactic
import Derived.BigQuiet
import Derived.Test.YthopphabeddnfaaGreatDoorZWalkD
set_option linter.unusedVariables false
set_option linter.unusedSimpArgs false
namespace Go.Proofs.YthopphabeddnfaaGreatDoor
open Go Go.RowKit Sy

theorem bs_tail (l : Str) (n : Nat) (hn : n = l.length) : (bs l).extract 1 n = bs l.tail:=by
 subst hn
 rw [ByteArray.ext_iff,ByteArray.data_extract]
 cases l <;> simp [bs]
def capt (part c : Str) : Str:=if isStar part then Lib.trimSuffix c part.tail else []

theorem cutSuffix_c (l m : Str) (w : World) (hl : l.length ≤ 140737488355328) : Calls Tryz.prog 99 #[.string (bs l),.string (bs m)] w fun e w'=>e = .returned (.tuple #[.string (bs (Lib.trimSuffix l m)),.bool (endsWith l m)]) ∧ w = w':=
 (Tryz.strings_CutSuffix (bs l) (bs m) w (by rw [bs_size];omega)).mono fun _ _ ⟨he,hw⟩=>⟨by rw [he,bs_toList,bs_toList];rfl,hw.symm⟩
theorem hasSuffix_c (l m : Str) (w : World) (hl : l.length ≤ 140737488355328) : Calls Tryz.prog 96 #[.string (bs l),.string (bs m)] w fun e w'=>e = .returned (.bool (endsWith l m)) ∧ w = w':=
 (Tryz.strings_HasSuffix (bs l) (bs m) w (by rw [bs_size];omega)).mono fun _ _ ⟨he,hw⟩=>⟨by rw [he,bs_toList,bs_toList];rfl,hw.symm⟩
theorem isStar_v (l : List UInt8) (b : Bool) (w : World) (h : isStar l = b) : Calls Tryz.prog 76 #[.string (bs l)] w fun e w'=>e = .returned (.bool b) ∧ w = w':=h ▸ isStar_c l w

theorem trim_empty {c t : Str} (h : endsWith c t = true) : (Lib.trimSuffix c t = []) ↔ ¬ t.length < c.length:=by
 have h1 : t.length ≤ c.length:=(endsWith_iff.1 h).length_le
 have : Lib.trimSuffix c t = c.take (c.length - t.length):=by unfold Lib.trimSuffix;exact if_pos h
 rw [this,List.take_eq_nil_iff]
 constructor
 ·rintro (h2 | h2)
  ·omega
  ·subst h2;simp
 ·intro h2;left;omega

set_option maxHeartbeats 400000 in
theorem mpart_u (part c : Str) (w : World) (hp : part.length ≤ 536870912) (hc : c.length ≤ 536870912) : Calls Tryz.prog 75 #[.string (bs part),.string (bs c)] w fun e w'=>e = .returned (.tuple #[.string (bs (capt part c)),.bool (mtch part c)]) ∧ w = w':=by
 rcases hs : isStar part with _ | _
 ·have hv : Hid ((capt part c,mtch part c) = ([],part == c)):=by show (_,_) = _;simp [capt,mtch,hs]
  go_enter Tryz.func75,Tryz.ntmps75
  go_wp2_with (go_at_call 76;refine (isStar_v _ _ _ hs).mono ?_;rintro e w' ⟨rfl,rfl⟩)
  go_ret2
  have h1:=congrArg Prod.fst hv.out
  have h2:=congrArg Prod.snd hv.out
  dsimp only at h1 h2
  refine ⟨?_,rfl⟩
  rw [h1,h2]
  rfl
 ·have hpos : 1 ≤ part.length:=by
   cases part with
   |nil=>cases hs
   |cons a t=>simp
  rcases he : endsWith c part.tail with _ | _
  ·have hv : Hid ((capt part c,mtch part c) = (Lib.trimSuffix c part.tail,false)):=by show (_,_) = _;simp [capt,mtch,hs,he]
   have hcut:=cutSuffix_c c part.tail w (by omega)
   rw [he] at hcut
   have hx:=bs_tail part part.length rfl
   go_enter Tryz.func75,Tryz.ntmps75
   go_wp2_with (first | (go_at_call 76;refine (isStar_v _ _ _ hs).mono ?_;rintro e w' ⟨rfl,rfl⟩) | (go_at_call 99;refine hcut.mono ?_;rintro e w' ⟨rfl,rfl⟩))
   go_ret2
   have h1:=congrArg Prod.fst hv.out
   have h2:=congrArg Prod.snd hv.out
   dsimp only at h1 h2
   refine ⟨?_,rfl⟩
   rw [h1,h2]
   rfl
  ·have hcut:=cutSuffix_c c part.tail w (by omega)
   rw [he] at hcut
   have hx:=bs_tail part part.length rfl
   by_cases hlt : part.tail.length < c.length
   ·have hv : Hid ((capt part c,mtch part c) = (Lib.trimSuffix c part.tail,true)):=by show (_,_) = _;simp [capt,mtch,hs,he];simpa using hlt
    have hne : Lib.trimSuffix c part.tail ≠ []:=fun e=>(trim_empty he).1 e hlt
    have hne2 : (Lib.trimSuffix c part.tail).isEmpty = false:=by simpa using hne
    clear hlt
    go_enter Tryz.func75,Tryz.ntmps75
    go_wp2_with (first | (go_at_call 76;refine (isStar_v _ _ _ hs).mono ?_;rintro e w' ⟨rfl,rfl⟩) | (go_at_call 99;refine hcut.mono ?_;rintro e w' ⟨rfl,rfl⟩))
    go_ret2
    have h1:=congrArg Prod.fst hv.out
    have h2:=congrArg Prod.snd hv.out
    dsimp only at h1 h2
    refine ⟨?_,rfl⟩
    rw [h1,h2]
    rfl
   ·have hv : Hid ((capt part c,mtch part c) = ([],false)):=by
     show (_,_) = _
     have e:=(trim_empty he).2 hlt
     simp only [capt,mtch,hs,if_true,he,Bool.true_and,decide_eq_false hlt,e]
    have hne : Lib.trimSuffix c part.tail = []:=(trim_empty he).2 hlt
    rw [hne] at hcut
    clear hlt hne
    go_enter Tryz.func75,Tryz.ntmps75
    go_wp2_with (first | (go_at_call 76;refine (isStar_v _ _ _ hs).mono ?_;rintro e w' ⟨rfl,rfl⟩) | (go_at_call 99;refine hcut.mono ?_;rintro e w' ⟨rfl,rfl⟩))
    go_ret2
    have h1:=congrArg Prod.fst hv.out
    have h2:=congrArg Prod.snd hv.out
    dsimp only at h1 h2
    refine ⟨?_,rfl⟩
    rw [h1,h2]
    rfl
theorem mpart_c (part c : Str) (w : World) (hp : part.length ≤ 4194304) (hc : c.length ≤ 4200000) : Calls Tryz.prog 75 #[.string (bs part),.string (bs c)] w fun e w'=>e = .returned (.tuple #[.string (bs (capt part c)),.bool (mtch part c)]) ∧ w = w':=mpart_u part c w (by omega) (by omega)
end Go.Proofs.YthopphabeddnfaaGreatDoor
set_option linter.unusedVariables false
set_option linter.unusedSimpArgs false
namespace Go.Proofs.YthopphabeddnfaaGreatDoor
open Go Go.RowKit Sy
theorem quietL {P : Program} {f : FuncId} {args : Array Value} {w : World} {n : Nat} {v : Value} (h : Calls P f args (w.drewN n) fun e w'=>e = .returned v ∧ w.drewN n = w') : Calls P f args (w.drewN n) fun e w''=>e = .returned v ∧ ∃ m,w'' = w.drewN m:=
 h.mono fun _ _ ⟨he,hw⟩=>⟨he,n,hw.symm⟩

set_option maxHeartbeats 400000 in
theorem pwith_u (a b : Str) (w : World) (ha : a.length ≤ 536870912) (hb : b.length ≤ 536870912) : Calls Tryz.prog 68 #[.string (bs a),.string (bs b)] w fun e w'=>e = .returned (.bool (inside a b)) ∧ Calm w w':=by
 by_cases hab : a = b
 ·subst hab
  have hv : inside a a = true:=by simp [inside]
  rw [hv]
  clear hv
  go_enter Tryz.func68,Tryz.ntmps68
  go_wp2
  go_ret
  exact ⟨rfl,Calm.refl w⟩
 ·have hne : (a == b) = false:=by simpa using hab
  rcases hsb : isStar b with _ | _
  ·have hv : inside a b = false:=by simp [inside,hne,hsb]
   rw [hv]
   clear hv hab
   go_enter Tryz.func68,Tryz.ntmps68
   go_wp2_with (go_at_call 76;refine (isStar_v _ _ _ hsb).mono ?_;rintro e w' ⟨rfl,rfl⟩)
   go_ret
   exact ⟨rfl,Calm.refl w⟩
  ·rcases hsa : isStar a with _ | _
   ·have hv : inside a b = mtch b a:=by simp [inside,hne,hsa,hsb]
    rw [hv]
    clear hv hab
    have hm:=mpart_u b a w hb (by omega)
    generalize mtch b a = r at hm ⊢
    go_enter Tryz.func68,Tryz.ntmps68
    go_wp2_with (first | (go_at_call_of 76 (bs b);refine (isStar_v _ _ _ hsb).mono ?_;rintro e w' ⟨rfl,rfl⟩) | (go_at_call_of 76 (bs a);refine (isStar_v _ _ _ hsa).mono ?_;rintro e w' ⟨rfl,rfl⟩) | (go_at_call 75;refine hm.mono ?_;rintro e w' ⟨rfl,rfl⟩))
    go_ret
    exact ⟨rfl,Calm.refl w⟩
   ·have hv : inside a b = endsWith a.tail b.tail:=by simp [inside,hne,hsa,hsb]
    rw [hv]
    clear hv hab
    have hx:=bs_tail a a.length rfl
    have hy:=bs_tail b b.length rfl
    have hm:=fun W=>hasSuffix_c a.tail b.tail W (by simp;omega)
    have hp1 : 1 ≤ a.length:=by
     cases a with
     |nil=>cases hsa
     |cons x t=>simp
    have hp2 : 1 ≤ b.length:=by
     cases b with
     |nil=>cases hsb
     |cons x t=>simp
    generalize endsWith a.tail b.tail = r at hm ⊢
    go_enter Tryz.func68,Tryz.ntmps68
    go_wp2_with (first | (go_at_call_of 76 (bs b);refine (isStar_v _ _ _ hsb).mono ?_;rintro e w' ⟨rfl,rfl⟩) | (go_at_call_of 76 (bs a);refine (isStar_v _ _ _ hsa).mono ?_;rintro e w' ⟨rfl,rfl⟩))
    go_quiet ((go_at_call 96;exact quietL (hm _)))
    go_wp2
    go_ret
    exact ⟨rfl,(Calm.refl w).drewN _⟩
theorem pwith_c (a b : Str) (w : World) (ha : a.length ≤ 4194304) (hb : b.length ≤ 4194304) : Calls Tryz.prog 68 #[.string (bs a),.string (bs b)] w fun e w'=>e = .returned (.bool (inside a b)) ∧ Calm w w':=pwith_u a b w (by omega) (by omega)
end Go.Proofs.YthopphabeddnfaaGreatDoor
