/- Walks: the reference's Fill (written by program: gen_rfill.py). -/
import Derived.Test.YtdcdabbepnahnaaGreatDoorZAppS
import Derived.Test.YtdcdabbepnahnaaGreatDoorZFwdP
set_option linter.unusedVariables false
set_option linter.unusedSimpArgs false
namespace Go.Proofs.YtdcdabbepnahnaaGreatDoor
open Go Go.RowKit Sy
set_option maxHeartbeats 1000000 in
theorem wild_c (p:Pat) (A:Option Addr) (c:Nat) (w:World) (hr:StrsG w A p.parts) (hsh:∀x∈p.parts,x.length≤16384) (hv:patErr p=0) :
  Calls Tryz.prog 145 #[.agg #[.slice A p.parts.length c,.bool p.rest]] w fun e w'=>e=.returned (.int .i64 (starN p+(if p.rest then 1 else 0):Nat))∧Calm w w':=by
 obtain⟨w1,hw1⟩:∃w1,w1=w.alloc (.cells #[.slice A p.parts.length c,.bool p.rest] 51):=⟨_,rfl⟩
 have hc1:Calm w w1:=by rw[hw1];exact (Calm.refl w).alloc _
 have hk:=rkinds_c p A c w1 (hr.calm hc1) hsh hv
 have hS:=starN_le p hv
 have HW:=Lib.hid hw1
 have HC:=Lib.hid hc1
 clear hw1 hc1 hr hv hsh
 generalize starN p=S at *
 generalize p.parts.length=n at *
 cases hre:p.rest with
 |false=>
  rw[hre] at hk HW
  go_enter Tryz.func145,Tryz.ntmps145
  go_wp2_with (go_at_call 141;rw[←HW.out];refine hk.mono ?_;rintro e w2 ⟨rfl,hc2⟩)
  go_ret
  exact⟨rfl,HC.out.trans hc2⟩
 |true=>
  rw[hre] at hk HW
  go_enter Tryz.func145,Tryz.ntmps145
  go_wp2_with (go_at_call 141;rw[←HW.out];refine hk.mono ?_;rintro e w2 ⟨rfl,hc2⟩)
  go_ret
  exact⟨ret_int (by simp),HC.out.trans hc2⟩
end Go.Proofs.YtdcdabbepnahnaaGreatDoor
