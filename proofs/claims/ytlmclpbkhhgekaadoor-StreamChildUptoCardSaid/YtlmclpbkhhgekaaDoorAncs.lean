/- Walk: Ancestors of streams. -/
import Derived.Test.YtlmclpbkhhgekaaDoorLocate
import Derived.Test.YtlmclpbkhhgekaaDoorNewS
set_option linter.unusedVariables false
set_option linter.unusedSimpArgs false
namespace Go.Proofs.YtlmclpbkhhgekaaDoor
open Go Go.RowKit Sy

def ancsOf (ss : List Strm) (i : Nat) : List Str := (above ss i).map fun p => (strm ss p).name
/-- What Ancestors hands back. -/
def AncEnd (ss : List Strm) (nm : Str) (e : Ending) (w' : World) : Prop :=
  (∃ x, x ≠ 0 ∧ readyE ss nm = x ∧ e = .returned (.tuple #[.slice none 0 0, .int .i64 x])) ∨
  (∃ i A c, readyE ss nm = 0 ∧ Sy.Good ss ∧ findI ss nm = some i ∧ e = .returned (.tuple #[.slice A (ancsOf ss i).length c, .int .i64 0]) ∧ StrsU w' A (ancsOf ss i) ∧ (ancsOf ss i).length ≤ c)
theorem map_take_snoc {α β : Type} (f : α → β) {l : List α} {k : Nat} {x : α} (h : l[k]? = some x) : (l.take (k + 1)).map f = (l.take k).map f ++ [f x] := by
  obtain ⟨hlt, rfl⟩ := List.getElem?_eq_some_iff.1 h
  rw [List.take_succ_eq_append_getElem hlt, List.map_append]
  rfl

set_option maxHeartbeats 2000000 in
theorem anc_c (ss : List Strm) (nm : Str) (A : Option Addr) (n c : Nat) (w : World) (hs : StrmsU w A ss) (hn : ss.length = n) (hnm : nm.length ≤ 1048576) :
    Calls Tryd.prog 17 #[.slice A n c, .string (bs nm)] w fun e w' => AncEnd ss nm e w' ∧ Calm w w' := by
  have hk := find_c ss nm A n c w hs hn hnm
  have HN := Lib.hid hn
  clear hs hn
  go_enter Tryd.func17, Tryd.ntmps17
  go_wp2_with fail
  refine hk.mono ?_
  rintro e w1 ⟨hend, hc1⟩
  rcases hend with ⟨x, hx0, hr, rfl⟩ | ⟨F, i, hr, hg, hfi, rfl, hf⟩
  · have hxb : (x != 0) = true := by simpa using hx0
    have HR := Lib.hid hr
    have H0 := Lib.hid hx0
    clear hx0 hr hk
    go_wp2_with fail
    go_ret2
    exact ⟨.inl ⟨x, H0.out, HR.out, rfl⟩, hc1⟩
  · have hil : i < n := by rw [← HN.out]; exact findI_lt hfi
    have hka := above_c ss F A n c i w1 hf hil
    obtain ⟨l0, hl⟩ : ∃ l, above ss i = l := ⟨_, rfl⟩
    have hel : Hid (∀ p ∈ l0, p < n) := fun p hp => by
      rw [← HN.out]
      exact above_lt (i := i) (by rw [hl]; exact hp)
    obtain ⟨m, hm⟩ : ∃ m, l0.length = m := ⟨_, rfl⟩
    have hm16 : m ≤ 5 := by
      rw [← hm, ← hl]
      exact hg.short (by rw [HN.out]; exact hil)
    unfold AboveEnd at hka
    rw [hl, hm] at hka
    have HE : Hid (∀ (W : World) (A2 : Option Addr) (c2 : Nat), StrsU W A2 (l0.map fun p => (strm ss p).name) → m ≤ c2 → AncEnd ss nm (.returned (.tuple #[.slice A2 m c2, .int .i64 0])) W) := fun W A2 c2 hU hroom => by
      refine .inr ⟨i, A2, c2, hr, hg, hfi, ?_, ?_, by unfold ancsOf; rw [hl, List.length_map, hm]; exact hroom⟩
      · unfold ancsOf
        rw [hl, List.length_map, hm]
      · unfold ancsOf
        rw [hl]
        exact hU
    have HNm : Hid (∀ p ∈ l0, (strm ss p).name.length ≤ 24) := fun p hp => (ownErr_zero (hg.own p (by rw [HN.out]; exact hel.out p hp))).2.1
    have HM := Lib.hid hm
    have HF := Lib.hid hf
    have HC1 := Lib.hid hc1
    clear hr hfi hf hg hk hl hm hc1
    go_wp2_with (go_at_call 36; refine hka.mono ?_; rintro e w2 ⟨⟨VA, vc, rfl, hia⟩, hc2⟩)
    have HI := Lib.hid hia
    have HC2 := Lib.hid hc2
    have HF2 := Lib.hid (HF.out.calm hc2)
    clear hia hc2 hka
    go_loopw [9, 26] (fun v q wr => ∃ k : Nat, k ≤ m ∧ q = .int .i64 k ∧ Hid (OwnS w2 wr v ((l0.take k).map fun p => (strm ss p).name))) (fun _ q _ => m - (intOf q).toNat)
    case atStart => exact ⟨0, Nat.zero_le _, rfl, OwnS.nil (Calm.refl _)⟩
    case round =>
      obtain ⟨k, hk, rfl, HV⟩ := hrel
      by_cases hlt : k < m
      · obtain ⟨p, hp⟩ : ∃ x, l0[k]? = some x := ⟨_, List.getElem?_eq_getElem (by rw [HM.out]; exact hlt)⟩
        obtain ⟨g, rfl, hg, hat⟩ := HI.out.calm HV.out.calm (by rw [HM.out]; omega)
        have c0 := hat k p hp
        have hpn : p < n := hel.out p (List.mem_of_getElem? hp)
        have HP := Lib.hid hp
        have f0 := Calm.at_ HV.out.calm HF2.out.c0 HF2.out.lt
        obtain ⟨b, o, s, PA, pc, rfl, hb, hr, hsat, hsu⟩ := HF2.out.strms.get (k := p) (by rw [HN.out]; exact hpn)
        have d0 := Calm.at_ HV.out.calm hsat.c0 hb
        obtain ⟨sn, hsn⟩ : ∃ sn, s.name = sn := ⟨_, rfl⟩
        rw [hsn] at d0
        have HX : Hid ((strm ss p).name = sn) := by show _ = _; rw [strm_at hr, hsn]
        have hlen : Hid (((l0.take k).map fun p => (strm ss p).name).length ≤ 1000000) := by
          show _ ≤ _
          rw [List.length_map, List.length_take]
          omega
        clear hat hp hr hsat hsu hsn
        go_wp2_with (at_builtin; refine wpList_append_str rfl (.tmp 30) (.tmp 39) rfl w2 _ ((l0.take k).map fun p => (strm ss p).name) rfl (HV.out.to ((Calm.refl wr).alloc (.cells #[.string (bs sn)] 9))) wr.heap.size 0 1 rfl sn (new_str _ rfl) hlen.out ?_; intro v5 w5 hown5 hgrow5)
        go_roundw
        case rel =>
          refine ⟨k + 1, by omega, by go_num, ?_⟩
          show OwnS _ _ _ _
          rw [map_take_snoc _ HP.out, HX.out]
          exact hown5
        case measure => simp [intOf]; omega
      · obtain rfl : k = m := by omega
        have h1 := HV.out
        rw [List.take_of_length_le (by rw [HM.out]; exact Nat.le_refl _)] at h1
        obtain ⟨A2, c2, e0, h2⟩ := own_newS h1.own (by rw [List.length_map, HM.out]; omega) (fun l hl => by
          obtain ⟨p, hp, rfl⟩ := List.mem_map.1 hl
          have := HNm.out p hp
          omega)
        rw [List.length_map, HM.out] at e0
        have H2 := Lib.hid (HE.out wr A2 c2 h2.u (by have := h2.room; rw [List.length_map, HM.out] at this; exact this))
        clear h1 h2
        subst e0
        have HCv := Lib.hid HV.out.calm
        clear HV
        go_wp2
        go_ret2
        exact ⟨H2.out, HC1.out.trans (HC2.out.trans HCv.out)⟩
end Go.Proofs.YtlmclpbkhhgekaaDoor
