/- Walks: the reference's firsts and Join. -/
import Derived.Test.YtdndfkoklhfffaaDoorWalkS
import Derived.Test.YtdndfkoklhfffaaDoorRJoin
set_option linter.unusedVariables false
set_option linter.unusedSimpArgs false
namespace Go.Proofs.YtdndfkoklhfffaaDoor
open Go Go.RowKit Sy

/-- The components of one byte below k. -/
def fstTo (k : Nat) : List Str := ((List.range k).filter fun j => comp [UInt8.ofNat j]).map fun j => [UInt8.ofNat j]
theorem fstTo_all : fstTo 128 = starts.map fun c => [c] := by decide +kernel
theorem fstTo_yes {k : Nat} (h : comp [UInt8.ofNat k] = true) : fstTo (k + 1) = fstTo k ++ [[UInt8.ofNat k]] := by
  simp [fstTo, List.range_succ, List.filter_append, h]
theorem fstTo_no {k : Nat} (h : comp [UInt8.ofNat k] = false) : fstTo (k + 1) = fstTo k := by
  simp [fstTo, List.range_succ, List.filter_append, h]
theorem fstTo_len (k : Nat) : (fstTo k).length ≤ k := by
  unfold fstTo
  rw [List.length_map]
  have := List.length_filter_le (fun j => comp [UInt8.ofNat j]) (List.range k)
  rw [List.length_range] at this
  exact this

set_option maxRecDepth 100000 in
set_option maxHeartbeats 2000000 in
theorem firsts_c (w : World) : Calls Tryd.prog 42 #[] w fun e w' => Calm w w' ∧ ∃ A c, e = .returned (.slice A 65 c) ∧ StrsR w' A (starts.map fun c => [c]) := by
  obtain ⟨i0, hi0, hz0, hz1, hz2⟩ := info_parts info_str
  go_enter Tryd.func42, Tryd.ntmps42
  go_wp2_with fail
  go_loopw [1, 2] (fun v q wr => ∃ k : Nat, k ≤ 128 ∧ q = .int .i64 k ∧ Hid (Calm w wr) ∧ Hid (wr.ownsRow w.heap.size 9 1 v (fstTo k).length (strCells (fstTo k)))) (fun _ q _ => 128 - (intOf q).toNat)
  case atStart => exact ⟨0, Nat.zero_le _, rfl, Calm.refl _, World.ownsRow_nil _ _ _ _⟩
  case round =>
    obtain ⟨k, hk, rfl, HC, HO⟩ := hrel
    by_cases hlt : k < 128
    · have hk8 : k ≤ 255 := by omega
      have hb8 : ((UInt8.ofNat k).toNat : Int) = (k : Int) := by rw [UInt8.toNat_ofNat']; omega
      have hconv : Sem.run Tryd.prog (convert 86 9 (.slice (some ⟨wr.heap.size, 0, none⟩) 1 1)) (wr.alloc (.cells #[.int .u8 k] 5)) = .ok (.string (bs [UInt8.ofNat k])) (wr.alloc (.cells #[.int .u8 k] 5)) :=
        run_convert_bytes_back (P := Tryd.prog) (wr.alloc (.cells #[.int .u8 k] 5)) 86 9 5 ⟨wr.heap.size, 0, none⟩ 1 [UInt8.ofNat k] Tryd.underlying86 Tryd.underlying5 Tryd.underlying9 (fun j hj => by
          have : j = 0 := by simpa using hj
          subst this
          have e0 : (⟨wr.heap.size, 0, none⟩ : Addr).add 0 = ⟨wr.heap.size, 0, none⟩ := rfl
          rw [e0]
          show _ = some (Value.int .u8 ((UInt8.ofNat k).toNat : Int))
          rw [hb8]
          simp)
      clear hb8
      have hfl := fstTo_len k
      obtain ⟨r, hr⟩ : ∃ r, comp [UInt8.ofNat k] = r := ⟨_, rfl⟩
      have hcm := fun W => rcomp_v [UInt8.ofNat k] r W (by simp) hr
      have HR := Lib.hid hr
      clear hr
      cases r with
      | false =>
        go_wp2_with (go_at_call 67; refine (hcm _).mono ?_; rintro e w3 ⟨rfl, rfl⟩)
        go_roundw
        case rel => exact ⟨k + 1, by omega, by go_num, HC.out.alloc _, by rw [fstTo_no HR.out]; exact owns_calm HO.out ((Calm.refl _).alloc _)⟩
        case measure => simp [intOf]; omega
      | true =>
        go_wp2_with (first
          | (go_at_call 67; refine (hcm _).mono ?_; rintro e w3 ⟨rfl, rfl⟩)
          | (at_builtin; refine wpList_append_own _ rfl (.tmp 14) (.tmp 16) 22 rfl w.heap.size 9 i0 _ 1 16 Tryd.underlying22 hi0 hz0 hz1 hz2 rfl (by decide) u1 (fstTo k).length (strCells (fstTo k)) rfl (owns_calm HO.out (((Calm.refl wr).alloc _).alloc _)) ⟨wr.heap.size + 1, 0, none⟩ 1 1 [.string (bs [UInt8.ofNat k])] rfl rfl (World.news_of_block (cs := #[.string (bs [UInt8.ofNat k])]) (t := 9) (fr := (0, 0)) (by simpa using heap_alloc_new (wr.alloc (.cells #[.int .u8 k] 5)) (.cells #[.string (bs [UInt8.ofNat k])] 9))) (by simp [Value.oneCell']) (by unfold maxLen; omega) (by omega) (Nat.le_trans HC.out.size (((Calm.refl wr).alloc _).alloc _).size) ?_; intro v5 w5 hown5 hgrow5 _))
        go_roundw
        case rel =>
          refine ⟨k + 1, by omega, by go_num, ?_, ?_⟩
          · exact Below.trans ((HC.out.alloc _).alloc _) (owns_below (owns_calm HO.out (((Calm.refl wr).alloc _).alloc _)) (Nat.le_trans HC.out.size (((Calm.refl wr).alloc _).alloc _).size) hgrow5)
          · rw [fstTo_yes HR.out, List.length_append]
            show w5.ownsRow w.heap.size 9 1 v5 _ _
            simpa [strCells] using hown5
        case measure => simp [intOf]; omega
    · have hk2 : k = 128 := by omega
      subst hk2
      have hown := HO.out
      rw [fstTo_all] at hown
      obtain ⟨A, c, hv, hle, hat⟩ := owns_strs hown
      have HV := Lib.hid hv
      have HAt := Lib.hid hat
      clear hv hat hown
      go_wp2
      go_ret
      refine ⟨HC.out, A, c, by rw [HV.out]; rfl, by decide, fun l hl => ?_, fun h0 => ?_⟩
      · obtain ⟨c, _, rfl⟩ := List.mem_map.1 hl
        simp
      · obtain ⟨g, rfl, _, hg, hc⟩ := HAt.out h0
        exact ⟨g, 0, rfl, hg, fun k l hl => by rw [Nat.zero_add]; exact hc k l hl⟩

end Go.Proofs.YtdndfkoklhfffaaDoor
