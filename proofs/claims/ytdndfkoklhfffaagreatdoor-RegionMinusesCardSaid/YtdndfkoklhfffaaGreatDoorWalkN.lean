/- Walks: the program's Least: the closure; a component's two sets. -/
import Derived.Test.YtdndfkoklhfffaaGreatDoorWalkM
import Derived.Test.YtdndfkoklhfffaaGreatDoorStr
set_option linter.unusedVariables false
set_option linter.unusedSimpArgs false
namespace Go.Proofs.YtdndfkoklhfffaaGreatDoor
open Go Go.RowKit Sy

set_option maxHeartbeats 1000000 in
theorem lclo_pred (hs : List Pat) (S : Nat → Bool) (i : Nat) (HA : Option Addr) (hc : Nat) (w : World) (Bg Bc Bi : Nat) (hh : PatsR w HA hs) (hT : Tab w) (hi : i ≤ 20000) (hS : ∀ j, S j = true → j < hs.length)
    (hBg : Bg < w.heap.size) (hBc : Bc < w.heap.size) (hBi : Bi < w.heap.size) (cg : w.cell? ⟨Bg, 2, none⟩ = some (.slice HA hs.length hc)) (cc : w.cell? ⟨Bc, 0, none⟩ = some (.int .u64 (mask S 64 : Nat))) (ci : w.cell? ⟨Bi, 0, none⟩ = some (.int .i64 i)) :
    PredS 41 #[.pointer (some ⟨Bg, 0, none⟩), .pointer (some ⟨Bc, 0, none⟩), .pointer (some ⟨Bi, 0, none⟩)] (fun x => mask (mset hs S i x) 64 == 0) w := by
  intro W hW x hx
  show Calls Tryz.prog 41 #[.string (bs x), .pointer (some ⟨Bg, 0, none⟩), .pointer (some ⟨Bc, 0, none⟩), .pointer (some ⟨Bi, 0, none⟩)] W _
  have hm := matching_c hs S i x HA hc W (hh.calm hW) (hT.calm hW) hi (by omega) hS
  have dg := hW.at_ cg hBg
  have dc := hW.at_ cc hBc
  have di := hW.at_ ci hBi
  clear hW hh hT hS cg cc ci hBg hBc hBi hi hx
  generalize mask S 64 = s at hm dc
  obtain ⟨r, hr⟩ : ∃ r, mask (mset hs S i x) 64 = r := ⟨_, rfl⟩
  rw [hr] at hm
  have HR := Lib.hid hr
  clear hr
  generalize hs.length = n at hm dg
  rcases Nat.eq_zero_or_pos r with h0 | h0
  · subst h0
    go_enter Tryz.func41, Tryz.ntmps41
    go_wp2_with (go_at_call 42; refine hm.mono ?_; rintro e w2 ⟨rfl, hc2⟩)
    go_ret
    exact ⟨ret_bool (by rw [HR.out]; rfl), hc2⟩
  · have h1 : ((r : Int) == 0) = false := by simp; omega
    have h2 : Hid ((r == 0) = false) := by show (r == 0) = false; simp; omega
    go_enter Tryz.func41, Tryz.ntmps41
    go_wp2_with (go_at_call 42; refine hm.mono ?_; rintro e w2 ⟨rfl, hc2⟩)
    go_ret
    exact ⟨ret_bool (by rw [HR.out, h2.out]), hc2⟩
end Go.Proofs.YtdndfkoklhfffaaGreatDoor
