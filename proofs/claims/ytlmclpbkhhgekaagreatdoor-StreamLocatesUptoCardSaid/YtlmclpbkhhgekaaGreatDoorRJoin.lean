/- Walks: the reference's Join. -/
import Derived.Test.YtlmclpbkhhgekaaGreatDoorAppS
set_option linter.unusedVariables false
set_option linter.unusedSimpArgs false
namespace Go.Proofs.YtlmclpbkhhgekaaGreatDoor
open Go Go.RowKit Sy

/-- Join of components. -/
theorem rjoin_c (ls : List Str) (Bk c : Nat) (w : World) (hcells : ∀ (j : Nat) (l : Str), ls[j]? = some l → w.cell? ⟨Bk, j, none⟩ = some (.string (bs l))) (hB : Bk < w.heap.size) (hcap : ls.length ≤ c) (hl : ls.length ≤ 20000) (hK : ∀ l ∈ ls, l.length ≤ 20000) :
    Calls Tryz.prog 17 #[.slice (some ⟨Bk, 0, none⟩) ls.length c] w fun e w' => e = .returned (.string (bs (47 :: 47 :: Lib.join ls [47]))) ∧ Calm w w' := by
  have hj := join47_c ls Bk c w hcells hB hcap hl hK
  have hjl := join47_len hl hK
  have hv : Hid (bs (47 :: 47 :: Lib.join ls [47]) = ⟨#[47, 47]⟩ ++ bs (Lib.join ls [47])) := bs_append [47, 47] _
  generalize Lib.join ls [47] = J at hj hjl hv
  clear hcells hK
  generalize ls.length = n at hj hcap hl
  go_enter Tryz.func17, Tryz.ntmps17
  go_wp2_with (go_at_call 36; refine hj.mono ?_; rintro e w8 ⟨rfl, hc8⟩)
  go_ret
  exact ⟨ret_str (by rw [hv.out]), hc8⟩
end Go.Proofs.YtlmclpbkhhgekaaGreatDoor
