/- Walks: the reference's Check of a pattern that is one, its Inside. -/
import Derived.Test.YtnlnclefedohkaaGreatDoorZKinds
import Derived.Test.YtnlnclefedohkaaGreatDoorZMeetW
set_option linter.unusedVariables false
set_option linter.unusedSimpArgs false
namespace Go.Proofs.YtnlnclefedohkaaGreatDoor
open Go Go.RowKit Sy

set_option maxHeartbeats 1000000 in
theorem rinside_c (x y : Str) (w : World) (hx : x.length ≤ 16384) (hy : y.length ≤ 16384) (hxo : partOk x = true) (hyo : partOk y = true) :
  Calls Tryz.prog 72 #[.string (bs x),.string (bs y)] w fun e w'=>e = .returned (.bool (inside x y)) ∧ w = w':=by
 by_cases hxy : x = y
 ·subst hxy
  have hv : inside x x = true:=by simp [inside]
  rw [hv]
  clear hv
  rcases hs : isStar x with _ | _
  ·have hst:=star_v x false [] w hx (by rw [starOk_iff hxo,hs]) (by rw [starSuf,starOk_iff hxo,hs];rfl)
   go_enter Tryz.func72,Tryz.ntmps72
   go_wp2_with (go_at_call 73;refine hst.mono ?_;rintro e w' ⟨rfl,rfl⟩)
   go_ret
   exact ⟨rfl,rfl⟩
  ·have hst:=star_v x true x.tail w hx (by rw [starOk_iff hxo,hs]) (by rw [starSuf,starOk_iff hxo,hs];rfl)
   have hsf:=hasSuffix_c x.tail x.tail w (by rw [List.length_tail];omega)
   have he : endsWith x.tail x.tail = true:=endsWith_iff.2 (List.suffix_refl _)
   rw [he] at hsf
   clear he
   go_enter Tryz.func72,Tryz.ntmps72
   go_wp2_with (first | (go_at_call 73;refine hst.mono ?_;rintro e w' ⟨rfl,rfl⟩) | (go_at_call 108;refine hsf.mono ?_;rintro e w' ⟨rfl,rfl⟩))
   go_ret
   exact ⟨rfl,rfl⟩
 ·have hne : (x == y) = false:=by simpa using hxy
  rcases hsy : isStar y with _ | _
  ·have hv : inside x y = false:=by simp [inside,hne,hsy]
   rw [hv]
   clear hv hxy
   have hty:=star_v y false [] w hy (by rw [starOk_iff hyo,hsy]) (by rw [starSuf,starOk_iff hyo,hsy];rfl)
   have htx:=star_c x w (by omega)
   go_enter Tryz.func72,Tryz.ntmps72
   go_wp2_with (first | (go_at_call_of 73 (bs x);refine htx.mono ?_;rintro e w' ⟨rfl,rfl⟩) | (go_at_call_of 73 (bs y);refine hty.mono ?_;rintro e w' ⟨rfl,rfl⟩))
   go_ret
   exact ⟨rfl,rfl⟩
  ·have hty:=star_v y true y.tail w hy (by rw [starOk_iff hyo,hsy]) (by rw [starSuf,starOk_iff hyo,hsy];rfl)
   rcases hsx : isStar x with _ | _
   ·have hv : inside x y = mtch y x:=by simp [inside,hne,hsx,hsy]
    rw [hv]
    clear hv hxy
    have htx:=star_v x false [] w hx (by rw [starOk_iff hxo,hsx]) (by rw [starSuf,starOk_iff hxo,hsx];rfl)
    have hco : comp x = true:=by
     have h1:=starOk_iff hxo
     rw [hsx] at h1
     simpa [partOk,h1] using hxo
    have hca:=cap_c y x w hy (by omega) hyo hco
    generalize mtch y x = r at hca ⊢
    go_enter Tryz.func72,Tryz.ntmps72
    go_wp2_with (first | (go_at_call_of 73 (bs x);refine htx.mono ?_;rintro e w' ⟨rfl,rfl⟩) | (go_at_call_of 73 (bs y);refine hty.mono ?_;rintro e w' ⟨rfl,rfl⟩) | (go_at_call 74;refine hca.mono ?_;rintro e w' ⟨rfl,rfl⟩))
    go_ret
    exact ⟨rfl,rfl⟩
   ·have hv : inside x y = endsWith x.tail y.tail:=by simp [inside,hne,hsx,hsy]
    rw [hv]
    clear hv hxy
    have htx:=star_v x true x.tail w hx (by rw [starOk_iff hxo,hsx]) (by rw [starSuf,starOk_iff hxo,hsx];rfl)
    have hsf:=hasSuffix_c x.tail y.tail w (by rw [List.length_tail];omega)
    generalize endsWith x.tail y.tail = r at hsf ⊢
    go_enter Tryz.func72,Tryz.ntmps72
    go_wp2_with (first | (go_at_call_of 73 (bs x);refine htx.mono ?_;rintro e w' ⟨rfl,rfl⟩) | (go_at_call_of 73 (bs y);refine hty.mono ?_;rintro e w' ⟨rfl,rfl⟩) | (go_at_call 108;refine hsf.mono ?_;rintro e w' ⟨rfl,rfl⟩))
    go_ret
    exact ⟨rfl,rfl⟩

end Go.Proofs.YtnlnclefedohkaaGreatDoor
set_option linter.unusedVariables false
set_option linter.unusedSimpArgs false
namespace Go.Proofs.YtnlnclefedohkaaGreatDoor
open Go Go.RowKit Sy

theorem rcheckA_c (p : Pat) (n c : Nat) (re : Bool) (A : Option Addr) (w : World) (hr : PatA w A c p) (hp : patErr p = 0) (hn : p.parts.length = n) (hre : p.rest = re) : Calls Tryz.prog 71 #[.agg #[.slice A n c,.bool re]] w fun e w'=>e = .returned (.int .i64 0) ∧ Calm w w':=by
 have:=rcheck_c p A c w hr.r hr.room hr.cap
 rw [hp,hn,hre] at this
 exact this
theorem rinside_v (x y : Str) (v : Bool) (w : World) (hx : x.length ≤ 16384) (hy : y.length ≤ 16384) (hxo : partOk x = true) (hyo : partOk y = true) (hv : inside x y = v) :
  Calls Tryz.prog 72 #[.string (bs x),.string (bs y)] w fun e w'=>e = .returned (.bool v) ∧ w = w':=hv ▸ rinside_c x y w hx hy hxo hyo
end Go.Proofs.YtnlnclefedohkaaGreatDoor
