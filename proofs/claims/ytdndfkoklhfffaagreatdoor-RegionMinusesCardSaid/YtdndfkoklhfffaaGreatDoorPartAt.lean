/- Walks: the part of a pattern at a component. -/
import Derived.Test.YtdndfkoklhfffaaGreatDoorWalkE0
set_option linter.unusedVariables false
set_option linter.unusedSimpArgs false
namespace Go.Proofs.YtdndfkoklhfffaaGreatDoor
open Go Go.RowKit Sy

set_option maxHeartbeats 400000 in
theorem partAt_c (p : Pat) (i : Nat) (A : Option Addr) (c : Nat) (w : World) (hi : i ≤ 20000) (hr : StrsR w A p.parts) : Calls Tryz.prog 40 #[.agg #[.slice A p.parts.length c, .bool p.rest], .int .i64 i] w fun e w' => e = .returned (.string (bs (pAt p i))) ∧ Calm w w' := by
  have hlen := hr.len
  obtain ⟨n, hn⟩ : ∃ n, p.parts.length = n := ⟨_, rfl⟩
  have Hn := Lib.hid hn
  rw [hn] at hlen
  rw [hn]
  by_cases hlt : i < n
  · obtain ⟨b, o, l, rfl, hb, hl, hll, hcell⟩ := (hr.calm ((Calm.refl w).alloc (.cells #[.slice A n c, .bool p.rest] 24))).get (k := i) (by rw [hn]; exact hlt)
    have hv : pAt p i = l := by simp [pAt, List.getD_eq_getElem?_getD, hl]
    rw [hv]
    clear hv hl hr hn
    go_enter Tryz.func40, Tryz.ntmps40
    go_wp2
    go_ret
    exact ⟨rfl, (Calm.refl w).alloc _⟩
  · have hv : pAt p i = [42] := pAt_out (by omega)
    rw [hv]
    clear hv hr hn
    go_enter Tryz.func40, Tryz.ntmps40
    go_wp2
    go_ret
    exact ⟨rfl, (Calm.refl w).alloc _⟩

end Go.Proofs.YtdndfkoklhfffaaGreatDoor
