/- Walks: the program's Least: the closure; a component's two sets. -/
import Derived.Test.YtdndfkoklhfffaaDoorWalkM
set_option linter.unusedVariables false
set_option linter.unusedSimpArgs false
namespace Go.Proofs.YtdndfkoklhfffaaDoor
open Go Go.RowKit Sy

theorem bs_append (a b : Str) : bs (a ++ b) = bs a ++ bs b := by
  apply ByteArray.ext
  apply Array.ext'
  simp [bs]
theorem join_len {K : Nat} (sep : Str) : ∀ ls : List Str, (∀ l ∈ ls, l.length ≤ K) → (Lib.join ls sep).length ≤ ls.length * (K + sep.length)
  | [], _ => by simp [Lib.join]
  | [a], h => by
    have := h a (by simp)
    simp [Lib.join]
    omega
  | a :: c :: t, h => by
    have ih := join_len sep (c :: t) (fun l hl => h l (by simp [hl]))
    have h1 := h a (by simp)
    have e : Lib.join (a :: c :: t) sep = a ++ (sep ++ Lib.join (c :: t) sep) := by simp [Lib.join, List.intercalate]
    rw [e, List.length_append, List.length_append]
    have h2 : (a :: c :: t).length * (K + sep.length) = (c :: t).length * (K + sep.length) + (K + sep.length) := by simp [Nat.add_mul]
    rw [h2]
    omega
theorem join47_len {ls : List Str} (hl : ls.length ≤ 20000) (hK : ∀ l ∈ ls, l.length ≤ 20000) : (Lib.join ls [47]).length ≤ 400020000 := by
  have h1 := join_len [47] ls hK
  have h2 : ls.length * (20000 + [47].length) ≤ 20000 * 20001 := Nat.mul_le_mul hl (Nat.le_refl _)
  exact Nat.le_trans h1 (Nat.le_trans h2 (by decide))
theorem join47_c (ls : List Str) (Bk c : Nat) (w : World) (hcells : ∀ (j : Nat) (l : Str), ls[j]? = some l → w.cell? ⟨Bk, j, none⟩ = some (.string (bs l))) (hB : Bk < w.heap.size) (hcap : ls.length ≤ c) (hl : ls.length ≤ 20000) (hK : ∀ l ∈ ls, l.length ≤ 20000) :
    Calls Tryd.prog 36 #[.slice (some ⟨Bk, 0, none⟩) ls.length c, .string ⟨#[47]⟩] w fun e w' => e = .returned (.string (bs (Lib.join ls [47]))) ∧ Calm w w' := by
  have hm : (ls.map bs).map (·.data.toList) = ls := by
    rw [List.map_map]
    have : ((fun s : ByteArray => s.data.toList) ∘ bs) = id := by funext l; exact bs_toList l
    rw [this, List.map_id]
  have h := Tryd.strings_Join Bk 0 c (ls.map bs) ⟨#[47]⟩ w (fun j x hx => by
      rw [List.getElem?_map] at hx
      obtain ⟨l, h1, rfl⟩ := Option.map_eq_some_iff.1 hx
      rw [Nat.zero_add]
      exact hcells j l h1) hB (by rw [List.length_map]; omega) (by rw [List.length_map]; exact hcap) (by
      rw [hm]
      have h1 := join_len [47] ls hK
      have h2 : ls.length * (20000 + [47].length) ≤ 20000 * 20001 := Nat.mul_le_mul hl (Nat.le_refl _)
      exact Nat.le_trans h1 (Nat.le_trans h2 (by decide)))
  rw [hm, List.length_map] at h
  exact h

set_option maxHeartbeats 1000000 in
theorem lclo_pred (hs : List Pat) (S : Nat → Bool) (i : Nat) (HA : Option Addr) (hc : Nat) (w : World) (Bg Bc Bi : Nat) (hh : PatsR w HA hs) (hT : Tab w) (hi : i ≤ 20000) (hS : ∀ j, S j = true → j < hs.length)
    (hBg : Bg < w.heap.size) (hBc : Bc < w.heap.size) (hBi : Bi < w.heap.size) (cg : w.cell? ⟨Bg, 2, none⟩ = some (.slice HA hs.length hc)) (cc : w.cell? ⟨Bc, 0, none⟩ = some (.int .u64 (mask S 64 : Nat))) (ci : w.cell? ⟨Bi, 0, none⟩ = some (.int .i64 i)) :
    PredS 34 #[.pointer (some ⟨Bg, 0, none⟩), .pointer (some ⟨Bc, 0, none⟩), .pointer (some ⟨Bi, 0, none⟩)] (fun x => mask (mset hs S i x) 64 == 0) w := by
  intro W hW x hx
  show Calls Tryd.prog 34 #[.string (bs x), .pointer (some ⟨Bg, 0, none⟩), .pointer (some ⟨Bc, 0, none⟩), .pointer (some ⟨Bi, 0, none⟩)] W _
  have hm := matching_c hs S i x HA hc W (hh.calm hW) (hT.calm hW) hi (by omega) hS
  have dg := hW.at_ cg hBg
  have dc := hW.at_ cc hBc
  have di := hW.at_ ci hBi
  clear hW hh hT hS cg cc ci hBg hBc hBi hi hx
  generalize mask S 64 = s at hm dc
  obtain ⟨r, hr⟩ : ∃ r, mask (mset hs S i x) 64 = r := ⟨_, rfl⟩
  rw [hr] at hm
  have HR := Lib.hid hr
  clear hr
  generalize hs.length = n at hm dg
  rcases Nat.eq_zero_or_pos r with h0 | h0
  · subst h0
    go_enter Tryd.func34, Tryd.ntmps34
    go_wp2_with (go_at_call 35; refine hm.mono ?_; rintro e w2 ⟨rfl, hc2⟩)
    go_ret
    exact ⟨ret_bool (by rw [HR.out]; rfl), hc2⟩
  · have h1 : ((r : Int) == 0) = false := by simp; omega
    have h2 : Hid ((r == 0) = false) := by show (r == 0) = false; simp; omega
    go_enter Tryd.func34, Tryd.ntmps34
    go_wp2_with (go_at_call 35; refine hm.mono ?_; rintro e w2 ⟨rfl, hc2⟩)
    go_ret
    exact ⟨ret_bool (by rw [HR.out, h2.out]), hc2⟩
end Go.Proofs.YtdndfkoklhfffaaDoor
