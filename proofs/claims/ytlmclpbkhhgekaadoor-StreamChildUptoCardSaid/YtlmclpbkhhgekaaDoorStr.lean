/- A slice of strings that a call itself makes by append: the word and the law of one step; strings.Split at '/'. -/
import Derived.Test.YtlmclpbkhhgekaaDoorOwn
import Derived.Test.YtlmclpbkhhgekaaDoorPath
import Derived.Test.YtlmclpbkhhgekaaDoorShelf
set_option linter.unusedVariables false
set_option linter.unusedSimpArgs false
namespace Go.Proofs.YtlmclpbkhhgekaaDoor
open Go Go.RowKit Sy

theorem info_strE : (Tryd.prog.info? 9).map (fun i => (i.zero, i.size, i.bytes)) = some (some (.string ByteArray.empty), 1, 16) := by kernel_rfl

/-- Since w0 only new blocks, among them v's row, which holds ls. -/
structure OwnS (w0 w : World) (v : Value) (ls : List Str) : Prop where
  calm : Calm w0 w
  own : w.ownsRow w0.heap.size 9 1 v ls.length (strCells ls)

theorem OwnS.nil {w0 w : World} (h : Calm w0 w) : OwnS w0 w (.slice none 0 0) [] := ⟨h, World.ownsRow_nil _ _ _ _⟩
theorem OwnS.to {w0 w w' : World} {v : Value} {ls : List Str} (h : OwnS w0 w v ls) (hc : Calm w w') : OwnS w0 w' v ls := ⟨h.calm.trans hc, owns_calm h.own hc⟩
theorem OwnS.strs {w0 w : World} {v : Value} {ls : List Str} (h : OwnS w0 w v ls) (h1 : ls.length ≤ 16384) (h2 : ∀ l ∈ ls, l.length ≤ 16384) : ∃ A c, v = .slice A ls.length c ∧ ls.length ≤ c ∧ StrsR w A ls := by
  obtain ⟨A, c, hv, hc, hat⟩ := owns_strs h.own
  refine ⟨A, c, hv, hc, h1, h2, fun h0 => ?_⟩
  obtain ⟨g, rfl, _, hg, hcells⟩ := hat h0
  exact ⟨g, 0, rfl, hg, fun k l hl => by rw [Nat.zero_add]; exact hcells k l hl⟩
/-- The block of such a row is none of those that were there in w0. -/
theorem OwnS.far {w0 w : World} {v : Value} {ls : List Str} (h : OwnS w0 w v ls) {b : Nat} (hb : b < w0.heap.size) : some b ≠ v.ownBlock := fun e => by
  have := (owns_lt h.own e.symm).1
  omega

theorem new_str (v : World) {n : Nat} {l : Str} (h : v.heap.size = n) : (v.alloc (.cells #[.string (bs l)] 9)).cell? ⟨n, 0, none⟩ = some (.string (bs l)) := by
  subst h
  rw [cell_of_row _ v.heap.size 0 _ _ _ (heap_alloc_new v _)]
  rfl
theorem wpList_append_str {ops : Array Oper} {rest : List Oper} {o : Oper} {a : Act} {Q : Exit → Act → World → Prop} {w : World} (hgd : o.guard = none) (s x : Operand)
    (ho : o.op = .call { callee := .builtin .append, args := #[s, x], argTypes := #[31, 31] }) (w0 : World) (v : Value) (ls : List Str) (hs : a.eval s = v) (hown : OwnS w0 w v ls)
    (b off c : Nat) (hx : a.eval x = .slice (some ⟨b, off, none⟩) 1 c) (l : Str) (hcell : w.cell? ⟨b, off, none⟩ = some (.string (bs l))) (hlen : ls.length ≤ 1000000)
    (h : ∀ v' w', OwnS w0 w' v' (ls ++ [l]) → w.grownBy w' v.ownBlock → wpList Tryd.prog ops Q rest (a.put o.dst v') w') : wpList Tryd.prog ops Q (o :: rest) a w := by
  obtain ⟨i0, hi0, hz0, hz1, hz2⟩ := info_parts info_strE
  refine wpList_append_own w hgd s x 31 ho w0.heap.size 9 i0 _ 1 16 Tryd.underlying31 hi0 hz0 hz1 hz2 rfl (by decide) v ls.length (strCells ls) hs hown.own ⟨b, off, none⟩ 1 c [.string (bs l)] hx rfl (fun j u hj => ?_) (by simp [Value.oneCell']) (by unfold maxLen; omega) (by omega) hown.calm.size ?_
  · cases j with
    | zero =>
      simp only [List.getElem?_cons_zero, Option.some.injEq] at hj
      subst hj
      simpa [Addr.add_lit] using hcell
    | succ j => simp at hj
  · intro v' w' ho' hg _
    refine h v' w' ⟨Below.trans hown.calm (owns_below hown.own hown.calm.size hg), ?_⟩ hg
    rw [List.length_append]
    simpa [strCells] using ho'

/-- internal/bytealg.MaxLen holds a number. -/
structure MaxL (w : World) : Prop where
  lt : 0 < w.heap.size
  at_ : ∃ m : Int, w.cell? ⟨0, 0, none⟩ = some (.int .i64 m)
theorem MaxL.calm {w w' : World} (h : MaxL w) (hc : Calm w w') : MaxL w' :=
  ⟨Nat.lt_of_lt_of_le h.lt hc.size, by
    obtain ⟨m, hm⟩ := h.at_
    exact ⟨m, hc.at_ hm h.lt⟩⟩

def sep47 : ByteArray := ⟨#[47]⟩
theorem split_bs (s : Str) : Lib.splitB sep47 0 (Lib.countB (bs s) sep47) (bs s) = (slash s).map bs := by
  have h := Lib.splitB_data sep47 0 (Lib.countB (bs s) sep47) (bs s)
  have hc : Lib.countB (bs s) sep47 = Lib.count s [47] := by
    show Lib.count (bs s).data.toList sep47.data.toList = _
    rw [bs_toList]
    rfl
  rw [bs_toList, hc] at h
  have hs : sep47.data.toList = [47] := rfl
  rw [hs, splitK_slash] at h
  rw [hc, ← h, List.map_map]
  have : (bs ∘ fun x : ByteArray => x.data.toList) = id := by funext x; exact bs_eta x
  rw [this, List.map_id]
theorem split_n (s : Str) : Lib.countB (bs s) sep47 + 1 = (slash s).length := by
  have h := Lib.splitB_all sep47 (by decide) 0 _ (bs s) rfl
  rw [split_bs, List.length_map] at h
  exact h.symm

theorem split_c (s : Str) (w : World) (hs : s.length ≤ 4000000) (hM : MaxL w) :
    Calls Tryd.prog 63 #[.string (bs s), .string ⟨#[47]⟩] w fun e w' => e = .returned (.slice (some ⟨w.heap.size, 0, none⟩) (slash s).length (slash s).length) ∧ Calm w w' ∧ StrsG w' (some ⟨w.heap.size, 0, none⟩) (slash s) := by
  obtain ⟨m, hm⟩ := hM.at_
  refine (Tryd.strings_Split (bs s) sep47 m w (by rw [bs_size]; omega) hm (by decide)).mono fun e w' ⟨he, hw⟩ => ?_
  rw [split_bs] at hw
  rw [split_n] at he
  have hl := slash_len s
  have he' := slash_each s
  refine ⟨he, hw ▸ (Calm.refl w).alloc _, by omega, fun l hl => by have := he' l hl; omega, fun _ => ⟨w.heap.size, 0, rfl, by rw [hw]; simp, fun k l hk => ?_⟩⟩
  rw [hw, Nat.zero_add, cell_of_row _ w.heap.size k _ _ _ (heap_alloc_new w _)]
  simp [hk]
theorem StrsG.of_le {w : World} {A : Option Addr} {ls : List Str} (h : StrsG w A ls) {s : Str} (hs : ls = slash s) (hl : s.length ≤ 16000) : StrsR w A ls := by
  subst hs
  have h1 := slash_len s
  exact h.toR (by omega) (fun l hm => by have := slash_each s l hm; omega)
theorem bs_append (a b : Str) : bs (a ++ b) = bs a ++ bs b := by
  apply ByteArray.ext
  apply Array.ext'
  simp [bs]
theorem join_len {K : Nat} (sep : Str) : ∀ ls : List Str, (∀ l ∈ ls, l.length ≤ K) → (Lib.join ls sep).length ≤ ls.length * (K + sep.length)
  | [], _ => by simp [Lib.join]
  | [a], h => by
    have := h a (by simp)
    simp [Lib.join]
    omega
  | a :: c :: t, h => by
    have ih := join_len sep (c :: t) (fun l hl => h l (by simp [hl]))
    have h1 := h a (by simp)
    have e : Lib.join (a :: c :: t) sep = a ++ (sep ++ Lib.join (c :: t) sep) := by simp [Lib.join, List.intercalate]
    rw [e, List.length_append, List.length_append]
    have h2 : (a :: c :: t).length * (K + sep.length) = (c :: t).length * (K + sep.length) + (K + sep.length) := by simp [Nat.add_mul]
    rw [h2]
    omega
theorem join47_len {ls : List Str} (hl : ls.length ≤ 20000) (hK : ∀ l ∈ ls, l.length ≤ 20000) : (Lib.join ls [47]).length ≤ 400020000 := by
  have h1 := join_len [47] ls hK
  have h2 : ls.length * (20000 + [47].length) ≤ 20000 * 20001 := Nat.mul_le_mul hl (Nat.le_refl _)
  exact Nat.le_trans h1 (Nat.le_trans h2 (by decide))
theorem join47_c (ls : List Str) (Bk c : Nat) (w : World) (hcells : ∀ (j : Nat) (l : Str), ls[j]? = some l → w.cell? ⟨Bk, j, none⟩ = some (.string (bs l))) (hB : Bk < w.heap.size) (hcap : ls.length ≤ c) (hl : ls.length ≤ 20000) (hK : ∀ l ∈ ls, l.length ≤ 20000) :
    Calls Tryd.prog 19 #[.slice (some ⟨Bk, 0, none⟩) ls.length c, .string ⟨#[47]⟩] w fun e w' => e = .returned (.string (bs (Lib.join ls [47]))) ∧ Calm w w' := by
  have hm : (ls.map bs).map (·.data.toList) = ls := by
    rw [List.map_map]
    have : ((fun s : ByteArray => s.data.toList) ∘ bs) = id := by funext l; exact bs_toList l
    rw [this, List.map_id]
  have h := Tryd.strings_Join Bk 0 c (ls.map bs) ⟨#[47]⟩ w (fun j x hx => by
      rw [List.getElem?_map] at hx
      obtain ⟨l, h1, rfl⟩ := Option.map_eq_some_iff.1 hx
      rw [Nat.zero_add]
      exact hcells j l h1) hB (by rw [List.length_map]; omega) (by rw [List.length_map]; exact hcap) (by
      rw [hm]
      have h1 := join_len [47] ls hK
      have h2 : ls.length * (20000 + [47].length) ≤ 20000 * 20001 := Nat.mul_le_mul hl (Nat.le_refl _)
      exact Nat.le_trans h1 (Nat.le_trans h2 (by decide)))
  rw [hm, List.length_map] at h
  exact h

theorem join_off_c (ls : List Str) (Bk off c : Nat) (w : World) (hcells : ∀ (j : Nat) (l : Str), ls[j]? = some l → w.cell? ⟨Bk, off + j, none⟩ = some (.string (bs l))) (hB : Bk < w.heap.size) (hcap : ls.length ≤ c) (hl : ls.length ≤ 20000) (hK : ∀ l ∈ ls, l.length ≤ 20000) :
    Calls Tryd.prog 19 #[.slice (some ⟨Bk, off, none⟩) ls.length c, .string ⟨#[47]⟩] w fun e w' => e = .returned (.string (bs (Lib.join ls [47]))) ∧ Calm w w' := by
  have hm : (ls.map bs).map (·.data.toList) = ls := by
    rw [List.map_map]
    have : ((fun s : ByteArray => s.data.toList) ∘ bs) = id := by funext l; exact bs_toList l
    rw [this, List.map_id]
  have h := Tryd.strings_Join Bk off c (ls.map bs) ⟨#[47]⟩ w (fun j x hx => by
      rw [List.getElem?_map] at hx
      obtain ⟨l, h1, rfl⟩ := Option.map_eq_some_iff.1 hx
      exact hcells j l h1) hB (by rw [List.length_map]; omega) (by rw [List.length_map]; exact hcap) (by
      rw [hm]
      have h1 := join_len [47] ls hK
      have h2 : ls.length * (20000 + [47].length) ≤ 20000 * 20001 := Nat.mul_le_mul hl (Nat.le_refl _)
      exact Nat.le_trans h1 (Nat.le_trans h2 (by decide)))
  rw [hm, List.length_map] at h
  exact h

end Go.Proofs.YtlmclpbkhhgekaaDoor
