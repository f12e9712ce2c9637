/- Walks: the laws MappingComposes, MappingComposeMeans, MappingOpposite, MappingAssociates. -/
import Derived.Test.YteplgaabicminaaGreatDoorZInvM
import Derived.Test.YteplgaabicminaaGreatDoorZBwdM
import Derived.Test.YteplgaabicminaaGreatDoorZComK
import Derived.Test.YteplgaabicminaaGreatDoorZRedM
import Derived.Test.YteplgaabicminaaGreatDoorZSmallM
import Derived.Test.YteplgaabicminaaGreatDoorZFwdM
import Derived.Test.YteplgaabicminaaGreatDoorZMapP
set_option linter.unusedVariables false
set_option linter.unusedSimpArgs false
namespace Go.Proofs.YteplgaabicminaaGreatDoor
open Go Go.RowKit Sy

def exM : List Ent := [⟨⟨[[100]], true⟩, ⟨[[99]], true⟩, [⟨[[100], [42, 46, 116, 109, 112]], false⟩]⟩]
theorem exM_inv : invE exM = ([⟨⟨[[99]], true⟩, ⟨[[100]], true⟩, [⟨[[99], [42, 46, 116, 109, 112]], false⟩]⟩], 0) := by decide +kernel
theorem exM_ok : (mapE exM).2 = 0 := by decide +kernel
theorem exM_bwd : bwS exM [47, 47, 99, 47, 97] = some [47, 47, 100, 47, 97] := by decide +kernel
theorem exM_small : ∀ x ∈ exM, SmallE x := fun x hx => by
  rw [exM, List.mem_singleton] at hx
  subst hx
  exact ⟨by decide, by decide, by decide, by decide, by decide⟩
theorem newm_at {v w' : World} {cs : Array Value} {t : TypeId} {n k : Nat} {x : Value} (hc : Calm (v.alloc (.cells cs t)) w') (hs : v.heap.size = n) (h : cs[k]? = some x) : w'.cell? ⟨n, k, none⟩ = some x := by
  subst hs
  refine hc.at_ ?_ (by simp)
  rw [cell_of_row _ v.heap.size k _ _ _ (heap_alloc_new v _)]
  exact h
def exMW (w : World) : World :=
  ((((((w.alloc (Obj.cells #[Value.string { data := #[100] }] 9)).alloc (Obj.cells #[Value.string { data := #[99] }] 9)).alloc (Obj.cells #[Value.slice (some { block := w.heap.size, off := 0 }) 1 1, Value.bool true] 38)).alloc
    (Obj.cells #[Value.slice (some { block := w.heap.size + 1, off := 0 }) 1 1, Value.bool true] 38)).alloc (Obj.cells #[Value.string { data := #[100] }, Value.string { data := #[42, 46, 116, 109, 112] }] 9)).alloc
    (Obj.cells #[Value.slice (some { block := w.heap.size + 1 + 1 + 1 + 1, off := 0 }) 2 2, Value.bool false] 38)).alloc
    (Obj.cells #[Value.slice (some { block := w.heap.size, off := 0 }) 1 1, Value.bool true, Value.slice (some { block := w.heap.size + 1, off := 0 }) 1 1, Value.bool true, Value.slice (some { block := w.heap.size + 1 + 1 + 1 + 1 + 1, off := 0 }) 1 1] 41)
theorem exMW_calm (w : World) : Calm w (exMW w) := (((((((Calm.refl w).alloc _).alloc _).alloc _).alloc _).alloc _).alloc _).alloc _
theorem exMW_size (w : World) : (exMW w).heap.size = w.heap.size + 7 := by simp [exMW]
theorem exMW_ents (w : World) : EntsA (exMW w) (some ⟨w.heap.size + 1 + 1 + 1 + 1 + 1 + 1, 0, none⟩) exM := by
  refine ⟨by decide, [⟨some ⟨w.heap.size, 0, none⟩, 1, some ⟨w.heap.size + 1, 0, none⟩, 1, some ⟨w.heap.size + 1 + 1 + 1 + 1 + 1, 0, none⟩, 1, ⟨⟨[[100]], true⟩, ⟨[[99]], true⟩, [⟨[[100], [42, 46, 116, 109, 112]], false⟩]⟩⟩], rfl, fun _ => ⟨_, 0, rfl, by rw [exMW_size]; omega, fun k x hk i u hu => ?_⟩, fun z hz => ?_⟩
  · match k, hk with
    | 0, hk =>
      obtain rfl := Option.some.inj hk
      have key : ∀ i u, (#[Value.slice (some { block := w.heap.size, off := 0 }) 1 1, Value.bool true, Value.slice (some { block := w.heap.size + 1, off := 0 }) 1 1, Value.bool true, Value.slice (some { block := w.heap.size + 1 + 1 + 1 + 1 + 1, off := 0 }) 1 1] : Array Value)[i]? = some u → (exMW w).cell? ⟨w.heap.size + 1 + 1 + 1 + 1 + 1 + 1, i, none⟩ = some u := fun i u h =>
        newm_at (v := (((((w.alloc _).alloc _).alloc _).alloc _).alloc _).alloc _) (Calm.refl _) (by simp) h
      rw [show 0 + 0 * 5 + i = i by omega]
      exact key i u (by simpa [encE] using hu)
  · rw [List.mem_singleton] at hz
    subst hz
    refine ⟨⟨(by show 1 ≤ 1048576; decide), (by show ∀ l ∈ ([[100]] : List Str), l.length ≤ 1048576; decide), fun _ => ⟨_, 0, rfl, by rw [exMW_size]; omega, fun k l hl => ?_⟩⟩, ⟨(by show 1 ≤ 1048576; decide), (by show ∀ l ∈ ([[99]] : List Str), l.length ≤ 1048576; decide), fun _ => ⟨_, 0, rfl, by rw [exMW_size]; omega, fun k l hl => ?_⟩⟩, ⟨(by show 1 ≤ 1048576; decide), fun _ => ⟨_, 0, rfl, by rw [exMW_size]; omega, fun k p hp => ?_⟩⟩, Nat.le_refl 1, Nat.le_refl 1, Nat.le_refl 1, (by show 1 ≤ 9223372036854775807; omega), (by show 1 ≤ 9223372036854775807; omega), (by show 1 ≤ 9223372036854775807; omega)⟩
    · rw [Nat.zero_add]
      refine newm_at (v := w) (((((((Calm.refl _).alloc _).alloc _).alloc _).alloc _).alloc _).alloc _) rfl ?_
      match k, hl with
      | 0, hl => cases hl; rfl
    · rw [Nat.zero_add]
      refine newm_at (v := w.alloc _) ((((((Calm.refl _).alloc _).alloc _).alloc _).alloc _).alloc _) (by simp) ?_
      match k, hl with
      | 0, hl => cases hl; rfl
    · match k, hp with
      | 0, hp =>
        obtain rfl := Option.some.inj hp
        refine ⟨some ⟨w.heap.size + 1 + 1 + 1 + 1, 0, none⟩, 2, ?_, ?_, Nat.le_refl 2, (by show 2 ≤ 9223372036854775807; omega), ⟨by decide, by decide, fun _ => ⟨_, 0, rfl, by rw [exMW_size]; omega, fun k l hl => ?_⟩⟩⟩
        · exact newm_at (v := ((((w.alloc _).alloc _).alloc _).alloc _).alloc _) ((Calm.refl _).alloc _) (by simp) rfl
        · exact newm_at (v := ((((w.alloc _).alloc _).alloc _).alloc _).alloc _) ((Calm.refl _).alloc _) (by simp) rfl
        · rw [Nat.zero_add]
          refine newm_at (v := (((w.alloc _).alloc _).alloc _).alloc _) (((Calm.refl _).alloc _).alloc _) (by simp) ?_
          match k, hl with
          | 0, hl => cases hl; rfl
          | 1, hl => cases hl; rfl
structure ExI (w : World) (b o : Nat) (b2 o2 c1 c2 b3 o3 : Nat) : Prop where
  h : w.cell? ⟨b, o + 4, none⟩ = some (.slice (some ⟨b2, o2, none⟩) 1 c1)
  p : w.cell? ⟨b2, o2, none⟩ = some (.slice (some ⟨b3, o3, none⟩) 2 c2)
  s : w.cell? ⟨b3, o3, none⟩ = some (.string ⟨#[99]⟩)
  lt : b < w.heap.size ∧ b2 < w.heap.size ∧ b3 < w.heap.size
theorem ExI.calm {w w' : World} {b o b2 o2 c1 c2 b3 o3 : Nat} (h : ExI w b o b2 o2 c1 c2 b3 o3) (hc : Calm w w') : ExI w' b o b2 o2 c1 c2 b3 o3 :=
  ⟨hc.at_ h.h h.lt.1, hc.at_ h.p h.lt.2.1, hc.at_ h.s h.lt.2.2, Nat.lt_of_lt_of_le h.lt.1 hc.size, Nat.lt_of_lt_of_le h.lt.2.1 hc.size, Nat.lt_of_lt_of_le h.lt.2.2 hc.size⟩
theorem exI_of {w' : World} {B : Nat} {e : Ending} (h : EntOut (invE exM).1 (invE exM).2 B e w') : ∃ b o c b2 o2 c1 c2 b3 o3, e = .returned (.tuple #[.slice (some ⟨b, o, none⟩) 1 c, .int .i64 0]) ∧ 1 ≤ c ∧ ExI w' b o b2 o2 c1 c2 b3 o3 := by
  rw [exM_inv] at h
  obtain ⟨A, c, rfl, h1, h2, zs, h3, h4, h5⟩ := h
  have hE : EntsR w' A [⟨⟨[[99]], true⟩, ⟨[[100]], true⟩, [⟨[[99], [42, 46, 116, 109, 112]], false⟩]⟩] := ⟨zs, h3, h4, fun z hz => (h5 z hz).u⟩
  obtain ⟨b, o, z, rfl, hb, hz, _, _, _, _, c4, hu⟩ := hE.get (k := 0) (by decide)
  have hze : z.e = ⟨⟨[[99]], true⟩, ⟨[[100]], true⟩, [⟨[[99], [42, 46, 116, 109, 112]], false⟩]⟩ := (Option.some.inj hz).symm
  have hh := hu.h
  rw [hze] at hh c4
  obtain ⟨b2, o2, p, Ak, ck, hA2, hb2, hp, d0, _, _, _, hs⟩ := hh.get (k := 0) (by decide)
  have hpe : p = ⟨[[99], [42, 46, 116, 109, 112]], false⟩ := (Option.some.inj hp).symm
  subst hpe
  obtain ⟨b3, o3, l, hA3, hb3, hl, _, e0⟩ := hs.get (k := 0) (by decide)
  have hle : l = [99] := (Option.some.inj hl).symm
  subst hle
  refine ⟨b, o, c, b2, o2, z.hc, ck, b3, o3, rfl, h1, ⟨?_, ?_, ?_, hb, hb2, hb3⟩⟩
  · rw [hA2] at c4
    simpa using c4
  · rw [hA3] at d0
    simpa using d0
  · have : w'.cell? ⟨b3, o3, none⟩ = some (.string (bs [99])) := by simpa using e0
    exact this
set_option maxRecDepth 100000 in
set_option maxHeartbeats 4000000 in
theorem awakeM_c (w : World) (hM : MaxL w) : Calls Tryz.prog 8 #[] w fun e w' => e = .returned (.bool true) ∧ Calm w w' := by
  have KI : Hid (Calls Tryz.prog 14 #[.slice (some ⟨w.heap.size + 1 + 1 + 1 + 1 + 1 + 1, 0, none⟩) 1 1] (exMW w) fun e w' => (∃ b o c b2 o2 c1 c2 b3 o3, e = .returned (.tuple #[.slice (some ⟨b, o, none⟩) 1 c, .int .i64 0]) ∧ 1 ≤ c ∧ ExI w' b o b2 o2 c1 c2 b3 o3) ∧ Calm (exMW w) w') :=
    (minv_c exM 1 1 _ (exMW w) (exMW_ents w) (Nat.le_refl _) (by decide) rfl exM_small).mono fun e w' ⟨h1, h2⟩ => ⟨exI_of h1, h2⟩
  have KB : Hid (∀ W, Calm (exMW w) W → Calls Tryz.prog 15 #[.slice (some ⟨w.heap.size + 1 + 1 + 1 + 1 + 1 + 1, 0, none⟩) 1 1, .string ⟨#[47, 47, 99, 47, 97]⟩] W fun e w' => e = .returned (.tuple #[.string ⟨#[47, 47, 100, 47, 97]⟩, .bool true]) ∧ Calm W w') := fun W hW => by
    have := mbwd_c exM [47, 47, 99, 47, 97] 1 1 _ W ((exMW_ents w).calm hW) (Nat.le_refl _) (by decide) rfl exM_small (by decide) (hM.calm ((exMW_calm w).trans hW))
    unfold mbV at this
    rw [if_pos exM_ok] at this
    unfold bwV at this
    rw [exM_bwd] at this
    exact this
  have HC : Hid (Calm w (exMW w)) := exMW_calm w
  clear hM
  go_enter Tryz.func8, Tryz.ntmps8
  go_wp2_with fail
  refine KI.out.mono ?_
  rintro e w3 ⟨⟨b, o, c, b2, o2, c1, c2, b3, o3, rfl, hc, hx⟩, hc3⟩
  have HX := Lib.hid hx
  have HC3 := Lib.hid hc3
  clear hx hc3
  go_wp2_with fail
  refine (KB.out w3 HC3.out).mono ?_
  rintro e w4 ⟨rfl, hc4⟩
  have hx4 := HX.out.calm hc4
  have x1 := hx4.h
  have x2 := hx4.p
  have x3 := hx4.s
  clear hx4
  go_wp2_with fail
  go_ret
  exact ⟨rfl, HC.out.trans (HC3.out.trans hc4)⟩
end Go.Proofs.YteplgaabicminaaGreatDoor
set_option linter.unusedVariables false
set_option linter.unusedSimpArgs false
namespace Go.Proofs.YteplgaabicminaaGreatDoor
open Go Go.RowKit Sy

theorem redK : RedK := fun b ps A1 c1 PA nl N pc lr W hA hP h1 h2 h3 hb hg => mreduce_c b ps A1 c1 PA nl N pc lr W hA hP h1 h2 h3 hb hg
theorem mcom_c (es fs : List Ent) (n c n2 c2 : Nat) (A A2 : Option Addr) (w : World) (h : EntsA w A es) (hcn : n ≤ c) (hcc : c ≤ 9223372036854775807) (hn : es.length = n) (hs : ∀ x ∈ es, SmallE x) (h2 : EntsA w A2 fs) (hcn2 : n2 ≤ c2) (hcc2 : c2 ≤ 9223372036854775807) (hn2 : fs.length = n2) (hs2 : ∀ x ∈ fs, SmallE x) :
    Calls Tryz.prog 9 #[.slice A n c, .slice A2 n2 c2] w fun e w' => EntOut (comE es fs).1 (comE es fs).2 w.heap.size e w' ∧ Calm w w' := mcom_k es fs n c n2 c2 A A2 w h hcn hcc hn hs h2 hcn2 hcc2 hn2 hs2 redK
end Go.Proofs.YteplgaabicminaaGreatDoor
set_option linter.unusedVariables false
set_option linter.unusedSimpArgs false
namespace Go.Proofs.YteplgaabicminaaGreatDoor
open Go Go.RowKit Sy
theorem smallK4 (es : List Ent) (n c : Nat) (A : Option Addr) (w : World) (h : EntsA w A es) (hcn : n ≤ c) (hcc : c ≤ 9223372036854775807) (hn : es.length = n) :
    Calls Tryz.prog 7 #[.slice A n c] w fun e w' => (∃ b, e = .returned (.bool b) ∧ (b = true → ∀ x ∈ es, SizeE 60 x)) ∧ Calm w w' :=
  (smallM_c es n c A w h hcn hcc hn).mono fun e w' ⟨⟨b, h1, h2⟩, h3⟩ => ⟨⟨b, h1, fun hb => (h2 hb).2⟩, h3⟩
theorem invE_len4 (es : List Ent) : (invE es).1.length ≤ es.length := by
  unfold invE
  split
  · exact Nat.zero_le _
  · exact List.length_filterMap_le _ _
theorem right_size4 {x : Ent} {ks : List Pat} (h : SizeE 60 x) (hk : rightHs x.rule x.hs = some ks) : ∀ p ∈ ks, ∀ s ∈ p.parts, s.length ≤ 120 := fun p hp s hs => by
  obtain ⟨y, hy, n, hn, rfl⟩ := ((rightHs_mem hk).2 p).1 hp
  exact narL_each hn (L := 60) (by decide) h.ls h.rs (h.h y hy).2 s hs
theorem red_size4 {b : Pat} {ps : List Pat} {L : Nat} (hL : 1 ≤ L) (hb : ∀ s ∈ b.parts, s.length ≤ L) (hp : ∀ p ∈ ps, ∀ s ∈ p.parts, s.length ≤ L) : ∀ q ∈ redL b ps, ∀ s ∈ q.parts, s.length ≤ L := fun q hq s hs => by
  obtain ⟨p, hpm, hm⟩ := meetsL_mem.1 (redL_mem.1 hq).1
  exact meet_each hm hb (hp p hpm) hL s hs
theorem comE_len (es fs : List Ent) : (comE es fs).1.length ≤ 32 := by
  unfold comE
  split
  · exact Nat.zero_le _
  · split
    · exact Nat.zero_le _
    · split
      · exact Nat.zero_le _
      · split
        · exact Nat.zero_le _
        · rename_i h
          exact Nat.le_of_not_lt h
theorem comE_size {a b : List Ent} {K : Nat} (hK : 1 ≤ K) (ha : ∀ x ∈ a, SizeE K x) (hb : ∀ x ∈ b, SizeE K x) (h : (comE a b).2 = 0) : ∀ x ∈ (comE a b).1, SizeE (K + K) x := by
  obtain ⟨h1, h2, h3⟩ := comE_ok h
  exact com_size hK ha hb (mapE_zero h1).1 (mapE_zero h2).1 h3
theorem mcom_a (es fs : List Ent) (n c n2 c2 l : Nat) (A A2 : Option Addr) (er : Int) (out : List Ent) (w : World) (h : EntsA w A es) (hcn : n ≤ c) (hcc : c ≤ 9223372036854775807) (hn : es.length = n) (hs : ∀ x ∈ es, SmallE x) (h2 : EntsA w A2 fs) (hcn2 : n2 ≤ c2) (hcc2 : c2 ≤ 9223372036854775807) (hn2 : fs.length = n2) (hs2 : ∀ x ∈ fs, SmallE x) (ho : (comE es fs).1 = out) (he : (comE es fs).2 = er) (hl : out.length = l) :
    Calls Tryz.prog 9 #[.slice A n c, .slice A2 n2 c2] w fun e w' => (∃ A3 c3, e = .returned (.tuple #[.slice A3 l c3, .int .i64 er]) ∧ EntsA w' A3 out ∧ l ≤ c3 ∧ c3 ≤ 9223372036854775807) ∧ Calm w w' :=
  (mcom_c es fs n c n2 c2 A A2 w h hcn hcc hn hs h2 hcn2 hcc2 hn2 hs2).mono fun e w' ⟨h1, h2⟩ => by
    obtain ⟨A3, c3, h3, h5, h6, zs, h7, h8, h9⟩ := h1
    rw [ho, he, hl] at h3
    rw [ho] at h5 h7
    rw [hl] at h5
    refine ⟨⟨A3, c3, h3, entsA_of h7 h8 h9 ?_, h5, h6⟩, h2⟩
    have := comE_len es fs
    rw [ho] at this
    omega
theorem mfS_len {es : List Ent} {s t : Str} (hs : ∀ x ∈ es, SizeE 60 x) (h3 : s.length ≤ 300) (h : mfS es s = some t) : t.length ≤ 8000 := by
  unfold mfS at h
  split at h
  · rename_i h0
    have hm := (mapE_zero h0).1
    obtain ⟨l, x, hp, hx, hh, _, rfl⟩ := fwdM_some h
    have hr := (hm.good x hx).1
    have hse : SmallE x := (hs x hx).mono (by decide)
    refine fwd_len (hse.v hr) h3 (s := s) ?_
    unfold fwd
    rw [if_pos hr, hp]
    simp only
    rw [if_pos (show matchL x.rule.left l = true from hasG_left hh)]
    rfl
  · cases h
theorem inv_size2 {es : List Ent} (h : ∀ x ∈ es, SizeE 60 x) : ∀ x ∈ (invE es).1, SizeE 120 x := fun y hy => by
  unfold invE at hy
  by_cases h0 : (mapE es).2 ≠ 0
  · rw [if_pos h0] at hy
    cases hy
  · rw [if_neg h0] at hy
    have hm := (mapE_zero (by simpa using h0)).1
    obtain ⟨x, hx, hi⟩ := List.mem_filterMap.1 hy
    have hgd := inv_good (hm.good x hx).1 (hm.good x hx).2 hi
    obtain ⟨g, hg, _, rfl⟩ := inv_mem hi
    obtain ⟨ks, hks, rfl⟩ := Option.map_eq_some_iff.1 hg
    have hs := h x hx
    refine ⟨hs.rp, fun s hs' => by have := hs.rs s hs'; omega, hs.lp, fun s hs' => by have := hs.ls s hs'; omega, fun p hp => ⟨?_, fun s hs' => ?_⟩⟩
    · have := (patErr_iff.1 (redL_good p hp)).2.2.1
      omega
    · have := red_size4 (L := 120) (by decide) (fun s hs' => by have := hs.rs s hs'; omega) (right_size4 hs hks) p hp s hs'
      omega
theorem smallOf {es : List Ent} {K : Nat} (hK : K ≤ 250) (hs : ∀ x ∈ es, SizeE K x) : ∀ x ∈ es, SmallE x := fun x hx => (hs x hx).mono hK
theorem minv_a (es : List Ent) (n c l : Nat) (A : Option Addr) (er : Int) (out : List Ent) (w : World) (h : EntsA w A es) (hcn : n ≤ c) (hcc : c ≤ 9223372036854775807) (hn : es.length = n) (hs : ∀ x ∈ es, SmallE x) (ho : (invE es).1 = out) (he : (invE es).2 = er) (hl : out.length = l) :
    Calls Tryz.prog 14 #[.slice A n c] w fun e w' => (∃ A3 c3, e = .returned (.tuple #[.slice A3 l c3, .int .i64 er]) ∧ EntsA w' A3 out ∧ l ≤ c3 ∧ c3 ≤ 9223372036854775807) ∧ Calm w w' :=
  (minv_c es n c A w h hcn hcc hn hs).mono fun e w' ⟨h1, h2⟩ => by
    obtain ⟨A3, c3, h3, h5, h6, zs, h7, h8, h9⟩ := h1
    rw [ho, he, hl] at h3
    rw [ho] at h5 h7
    rw [hl] at h5
    refine ⟨⟨A3, c3, h3, entsA_of h7 h8 h9 ?_, h5, h6⟩, h2⟩
    have h1 := invE_len4 es
    have h2 := h.1
    rw [ho] at h1
    omega
set_option maxHeartbeats 8000000 in
theorem mappingComposeMeans_c (es fs : List Ent) (s : Str) (n c n2 c2 : Nat) (A A2 : Option Addr) (w : World) (h : EntsA w A es) (hcn : n ≤ c) (hcc : c ≤ 9223372036854775807) (hn : es.length = n) (h2 : EntsA w A2 fs) (hcn2 : n2 ≤ c2) (hcc2 : c2 ≤ 9223372036854775807) (hn2 : fs.length = n2) (hsl : s.length ≤ 1048576) (hM : MaxL w) :
    Calls Tryz.prog 4 #[.slice A n c, .slice A2 n2 c2, .string (bs s)] w fun e w' => e = .returned (.bool true) ∧ Calm w w' := by
  have KS : Hid (∀ W, Calm w W → Calls Tryz.prog 7 #[.slice A n c] W fun e w' => (∃ b, e = .returned (.bool b) ∧ (b = true → ∀ x ∈ es, SizeE 60 x)) ∧ Calm W w') := fun W hW => smallK4 es n c A W (h.calm hW) hcn hcc hn
  have KS2 : Hid (∀ W, Calm w W → Calls Tryz.prog 7 #[.slice A2 n2 c2] W fun e w' => (∃ b, e = .returned (.bool b) ∧ (b = true → ∀ x ∈ fs, SizeE 60 x)) ∧ Calm W w') := fun W hW => smallK4 fs n2 c2 A2 W (h2.calm hW) hcn2 hcc2 hn2
  have KA : Hid (∀ W, Calm w W → Calls Tryz.prog 8 #[] W fun e w' => e = .returned (.bool true) ∧ Calm W w') := fun W hW => awakeM_c W (hM.calm hW)
  obtain ⟨re, hre⟩ : ∃ re, (comE es fs).1 = re := ⟨_, rfl⟩
  obtain ⟨rx, hrx⟩ : ∃ rx, (comE es fs).2 = rx := ⟨_, rfl⟩
  obtain ⟨rl, hrl⟩ : ∃ rl, re.length = rl := ⟨_, rfl⟩
  obtain ⟨ci, hci⟩ : ∃ ci, (mapE re).1 = ci := ⟨_, rfl⟩
  obtain ⟨ce, hce⟩ : ∃ ce, (mapE re).2 = ce := ⟨_, rfl⟩
  obtain ⟨fo, hfo⟩ : ∃ fo, mfS es s = fo := ⟨_, rfl⟩
  have HE : rx = 0 → Hid (ce = 0 ∨ ce = 72) := fun h0 => by
    show ce = 0 ∨ ce = 72
    have := comE_err (hrx.trans h0)
    rw [hre, hce] at this
    exact this
  have hsz60 : ∀ {es : List Ent}, (∀ x ∈ es, SizeE 60 x) → ∀ x ∈ es, SmallE x := fun hs x hx => (hs x hx).mono (by decide)
  have KI : Hid ((∀ x ∈ es, SizeE 60 x) → (∀ x ∈ fs, SizeE 60 x) → ∀ W, Calm w W → Calls Tryz.prog 9 #[.slice A n c, .slice A2 n2 c2] W fun e w' => (∃ A3 c3, e = .returned (.tuple #[.slice A3 rl c3, .int .i64 rx]) ∧ EntsA w' A3 re ∧ rl ≤ c3 ∧ c3 ≤ 9223372036854775807) ∧ Calm W w') := fun hs hs2 W hW =>
    mcom_a es fs n c n2 c2 rl A A2 rx re W (h.calm hW) hcn hcc hn (hsz60 hs) (h2.calm hW) hcn2 hcc2 hn2 (hsz60 hs2) hre hrx hrl
  have HSz : rx = 0 → (∀ x ∈ es, SizeE 60 x) → (∀ x ∈ fs, SizeE 60 x) → ∀ x ∈ re, SmallE x := fun h0 hs hs2 x hx => by
    have := comE_size (K := 60) (by decide) hs hs2 (hrx.trans h0) x (by rw [hre]; exact hx)
    exact this.mono (by decide)
  have KC : rx = 0 → Hid ((∀ x ∈ es, SizeE 60 x) → (∀ x ∈ fs, SizeE 60 x) → ∀ W A3 c3, Calm w W → EntsA W A3 re → rl ≤ c3 → c3 ≤ 9223372036854775807 → Calls Tryz.prog 12 #[.slice A3 rl c3] W fun e w' => e = .returned (.tuple #[.int .i64 (ci : Nat), .int .i64 ce]) ∧ Calm W w') := fun h0 hs hs2 W A3 c3 hW h1 h3 h4 => by
    have := check_c re rl c3 A3 W h1 h3 h4 (HSz h0 hs hs2) hrl
    rw [hci, hce] at this
    exact this
  have KF : Hid ((∀ x ∈ es, SizeE 60 x) → s.length ≤ 300 → ∀ W, Calm w W → Calls Tryz.prog 13 #[.slice A n c, .string (bs s)] W fun e w' => e = .returned (.tuple #[.string (bs (fo.getD [])), .bool fo.isSome]) ∧ Calm W w') := fun hs h3 W hW => by
    have := mfwd_c es s n c A W (h.calm hW) hcn hcc hn (hsz60 hs) (by omega) (hM.calm hW)
    rw [mfV_eq, optV, hfo] at this
    exact this
  have KG : Hid ((∀ x ∈ es, SizeE 60 x) → (∀ x ∈ fs, SizeE 60 x) → s.length ≤ 300 → ∀ t, fo = some t → ∀ W, Calm w W → Calls Tryz.prog 13 #[.slice A2 n2 c2, .string (bs t)] W fun e w' => e = .returned (.tuple #[.string (bs ((mfS fs t).getD [])), .bool (mfS fs t).isSome]) ∧ Calm W w') := fun hs hs2 h3 t ht W hW => by
    have hlt := mfS_len hs h3 (hfo.trans ht)
    have := mfwd_c fs t n2 c2 A2 W (h2.calm hW) hcn2 hcc2 hn2 (hsz60 hs2) (by omega) (hM.calm hW)
    rw [mfV_eq, optV] at this
    exact this
  have KT : rx = 0 → ce = 0 → Hid ((∀ x ∈ es, SizeE 60 x) → (∀ x ∈ fs, SizeE 60 x) → s.length ≤ 300 → ∀ r, fo.bind (mfS fs) = r → ∀ W A3 c3, Calm w W → EntsA W A3 re → rl ≤ c3 → c3 ≤ 9223372036854775807 → Calls Tryz.prog 13 #[.slice A3 rl c3, .string (bs s)] W fun e w' => e = .returned (.tuple #[.string (bs (r.getD [])), .bool r.isSome]) ∧ Calm W w') := fun h0 hz hs hs2 h3 r hr W A3 c3 hW h1 h4 h5 => by
    have := mfwd_c re s rl c3 A3 W h1 h4 h5 hrl (HSz h0 hs hs2) (by omega) (hM.calm hW)
    rw [mfV_eq, optV, ← hre, comE_fwd (hrx.trans h0) (by rw [hre, hce]; exact hz), hfo, hr] at this
    exact this
  have hsz : (bs s).size = s.length := by simp [bs, ByteArray.size]
  clear h hn h2 hn2 hM hre hrx hrl hfo hci hce HSz hsz60
  go_enter Tryz.func4, Tryz.ntmps4
  go_wp2_with fail
  refine (KS.out w (Calm.refl _)).mono ?_
  rintro e wa0 ⟨⟨b0, rfl, hb0⟩, hc0⟩
  have HB0 := Lib.hid hb0
  have HCa0 : Hid (Calm w wa0) := hc0
  clear hb0 hc0
  cases b0 with
  | false =>
    go_wp2_with fail
    refine (KA.out wa0 HCa0.out).mono ?_
    rintro e wz ⟨rfl, hcz⟩
    go_wp2_with fail
    go_ret
    exact ⟨rfl, HCa0.out.trans hcz⟩
  | true =>
    have HS := Lib.hid (HB0.out rfl)
    go_wp2_with fail
    refine (KS2.out wa0 HCa0.out).mono ?_
    rintro e wa1 ⟨⟨b1, rfl, hb1⟩, hc1⟩
    have HB1 := Lib.hid hb1
    have HCa1 : Hid (Calm w wa1) := HCa0.out.trans hc1
    clear hb1 hc1
    cases b1 with
    | false =>
      go_wp2_with fail
      refine (KA.out wa1 HCa1.out).mono ?_
      rintro e wz ⟨rfl, hcz⟩
      go_wp2_with fail
      go_ret
      exact ⟨rfl, HCa1.out.trans hcz⟩
    | true =>
      have HS2 := Lib.hid (HB1.out rfl)
      by_cases h3 : s.length ≤ 300
      · go_wp2_with fail
        refine (KI.out HS.out HS2.out wa1 HCa1.out).mono ?_
        rintro e w4 ⟨⟨A4, k4, rfl, hE4, hl4, hk4⟩, hc4⟩
        have HC4 : Hid (Calm w w4) := HCa1.out.trans hc4
        have HE4 := Lib.hid hE4
        clear hc4 hE4
        by_cases h0 : rx = 0
        · subst h0
          have KC1 := KC rfl
          have KT1 := KT rfl
          have HE1 := HE rfl
          clear KC KT HE
          go_wp2_with fail
          refine (KC1.out HS.out HS2.out w4 A4 k4 HC4.out HE4.out hl4 hk4).mono ?_
          rintro e w5 ⟨rfl, hc5⟩
          have HC5 : Hid (Calm w w5) := HC4.out.trans hc5
          have HE5 := Lib.hid (HE4.out.calm hc5)
          clear hc5
          by_cases hz : ce = 0
          · subst hz
            have KT2 := KT1 rfl
            clear KT1 HE1
            go_wp2_with fail
            refine (KF.out HS.out h3 w5 HC5.out).mono ?_
            rintro e w6 ⟨rfl, hc6⟩
            have HC6 : Hid (Calm w w6) := HC5.out.trans hc6
            have HE6 := Lib.hid (HE5.out.calm hc6)
            clear hc6
            cases fo with
            | none =>
              have KT3 := Lib.hid (KT2.out HS.out HS2.out h3 none rfl)
              clear KT2 KG
              go_wp2_with fail
              refine (KT3.out w6 A4 k4 HC6.out HE6.out hl4 hk4).mono ?_
              rintro e w8 ⟨rfl, hc8⟩
              have HC8 : Hid (Calm w w8) := HC6.out.trans hc8
              clear hc8
              go_wp2_with fail
              refine (KA.out w8 HC8.out).mono ?_
              rintro e wz ⟨rfl, hcz⟩
              go_wp2_with fail
              go_ret
              exact ⟨rfl, HC8.out.trans hcz⟩
            | some t =>
              have KG2 := Lib.hid (KG.out HS.out HS2.out h3 t rfl)
              have KT3 := Lib.hid (KT2.out HS.out HS2.out h3 (mfS fs t) rfl)
              clear KT2 KG
              obtain ⟨vs, hvs⟩ : ∃ vs, bs ((mfS fs t).getD []) = vs := ⟨_, rfl⟩
              obtain ⟨vb, hvb⟩ : ∃ vb, (mfS fs t).isSome = vb := ⟨_, rfl⟩
              rw [hvs, hvb] at KG2 KT3
              clear hvs hvb
              go_wp2_with fail
              refine (KG2.out w6 HC6.out).mono ?_
              rintro e w7 ⟨rfl, hc7⟩
              have HC7 : Hid (Calm w w7) := HC6.out.trans hc7
              have HE7 := Lib.hid (HE6.out.calm hc7)
              clear hc7
              go_wp2_with fail
              refine (KT3.out w7 A4 k4 HC7.out HE7.out hl4 hk4).mono ?_
              rintro e w8 ⟨rfl, hc8⟩
              have HC8 : Hid (Calm w w8) := HC7.out.trans hc8
              clear hc8
              go_wp2_with fail
              refine (KA.out w8 HC8.out).mono ?_
              rintro e wz ⟨rfl, hcz⟩
              go_wp2_with fail
              go_ret
              exact ⟨rfl, HC8.out.trans hcz⟩
          · obtain rfl : ce = 72 := by
              rcases HE1.out with h | h
              · exact absurd h hz
              · exact h
            clear KT1 HE1 hz
            go_wp2_with fail
            refine (KA.out w5 HC5.out).mono ?_
            rintro e wz ⟨rfl, hcz⟩
            go_wp2_with fail
            go_ret
            exact ⟨rfl, HC5.out.trans hcz⟩
        · have hb : (rx != 0) = true := by simpa using h0
          clear KC KT HE h0
          go_wp2_with fail
          refine (KA.out w4 HC4.out).mono ?_
          rintro e wz ⟨rfl, hcz⟩
          go_wp2_with fail
          go_ret
          exact ⟨rfl, HC4.out.trans hcz⟩
      · go_wp2_with fail
        refine (KA.out wa1 HCa1.out).mono ?_
        rintro e wz ⟨rfl, hcz⟩
        go_wp2_with fail
        go_ret
        exact ⟨rfl, HCa1.out.trans hcz⟩
set_option maxHeartbeats 8000000 in
theorem mappingOpposite_c (es fs : List Ent) (s : Str) (n c n2 c2 : Nat) (A A2 : Option Addr) (w : World) (h : EntsA w A es) (hcn : n ≤ c) (hcc : c ≤ 9223372036854775807) (hn : es.length = n) (h2 : EntsA w A2 fs) (hcn2 : n2 ≤ c2) (hcc2 : c2 ≤ 9223372036854775807) (hn2 : fs.length = n2) (hsl : s.length ≤ 1048576) (hM : MaxL w) :
    Calls Tryz.prog 5 #[.slice A n c, .slice A2 n2 c2, .string (bs s)] w fun e w' => e = .returned (.bool true) ∧ Calm w w' := by
  have KS : Hid (∀ W, Calm w W → Calls Tryz.prog 7 #[.slice A n c] W fun e w' => (∃ b, e = .returned (.bool b) ∧ (b = true → ∀ x ∈ es, SizeE 60 x)) ∧ Calm W w') := fun W hW => smallK4 es n c A W (h.calm hW) hcn hcc hn
  have KS2 : Hid (∀ W, Calm w W → Calls Tryz.prog 7 #[.slice A2 n2 c2] W fun e w' => (∃ b, e = .returned (.bool b) ∧ (b = true → ∀ x ∈ fs, SizeE 60 x)) ∧ Calm W w') := fun W hW => smallK4 fs n2 c2 A2 W (h2.calm hW) hcn2 hcc2 hn2
  have KA : Hid (∀ W, Calm w W → Calls Tryz.prog 8 #[] W fun e w' => e = .returned (.bool true) ∧ Calm W w') := fun W hW => awakeM_c W (hM.calm hW)
  obtain ⟨co, hco⟩ : ∃ co, (comE es fs).1 = co := ⟨_, rfl⟩
  obtain ⟨cx, hcx⟩ : ∃ cx, (comE es fs).2 = cx := ⟨_, rfl⟩
  obtain ⟨cl, hcl⟩ : ∃ cl, co.length = cl := ⟨_, rfl⟩
  obtain ⟨xo, hxo⟩ : ∃ xo, (invE es).1 = xo := ⟨_, rfl⟩
  obtain ⟨xx, hxx⟩ : ∃ xx, (invE es).2 = xx := ⟨_, rfl⟩
  obtain ⟨xl, hxl⟩ : ∃ xl, xo.length = xl := ⟨_, rfl⟩
  obtain ⟨yo, hyo⟩ : ∃ yo, (invE fs).1 = yo := ⟨_, rfl⟩
  obtain ⟨yx, hyx⟩ : ∃ yx, (invE fs).2 = yx := ⟨_, rfl⟩
  obtain ⟨yl, hyl⟩ : ∃ yl, yo.length = yl := ⟨_, rfl⟩
  obtain ⟨du, hdu⟩ : ∃ du, (comE yo xo).1 = du := ⟨_, rfl⟩
  obtain ⟨dx, hdx⟩ : ∃ dx, (comE yo xo).2 = dx := ⟨_, rfl⟩
  obtain ⟨dl, hdl⟩ : ∃ dl, du.length = dl := ⟨_, rfl⟩
  obtain ⟨ci, hci⟩ : ∃ ci, (mapE co).1 = ci := ⟨_, rfl⟩
  obtain ⟨ce, hce⟩ : ∃ ce, (mapE co).2 = ce := ⟨_, rfl⟩
  obtain ⟨di, hdi⟩ : ∃ di, (mapE du).1 = di := ⟨_, rfl⟩
  obtain ⟨de, hde⟩ : ∃ de, (mapE du).2 = de := ⟨_, rfl⟩
  obtain ⟨vs, hvs⟩ : ∃ vs, bs ((mbS co s).getD []) = vs := ⟨_, rfl⟩
  obtain ⟨vb, hvb⟩ : ∃ vb, (mbS co s).isSome = vb := ⟨_, rfl⟩
  have KC : Hid ((∀ x ∈ es, SizeE 60 x) → (∀ x ∈ fs, SizeE 60 x) → ∀ W, Calm w W → Calls Tryz.prog 9 #[.slice A n c, .slice A2 n2 c2] W fun e w' => (∃ A3 c3, e = .returned (.tuple #[.slice A3 cl c3, .int .i64 cx]) ∧ EntsA w' A3 co ∧ cl ≤ c3 ∧ c3 ≤ 9223372036854775807) ∧ Calm W w') := fun hs hs2 W hW =>
    mcom_a es fs n c n2 c2 cl A A2 cx co W (h.calm hW) hcn hcc hn (smallOf (by decide) hs) (h2.calm hW) hcn2 hcc2 hn2 (smallOf (by decide) hs2) hco hcx hcl
  have KX : Hid ((∀ x ∈ es, SizeE 60 x) → ∀ W, Calm w W → Calls Tryz.prog 14 #[.slice A n c] W fun e w' => (∃ A3 c3, e = .returned (.tuple #[.slice A3 xl c3, .int .i64 xx]) ∧ EntsA w' A3 xo ∧ xl ≤ c3 ∧ c3 ≤ 9223372036854775807) ∧ Calm W w') := fun hs W hW =>
    minv_a es n c xl A xx xo W (h.calm hW) hcn hcc hn (smallOf (by decide) hs) hxo hxx hxl
  have KY : Hid ((∀ x ∈ fs, SizeE 60 x) → ∀ W, Calm w W → Calls Tryz.prog 14 #[.slice A2 n2 c2] W fun e w' => (∃ A3 c3, e = .returned (.tuple #[.slice A3 yl c3, .int .i64 yx]) ∧ EntsA w' A3 yo ∧ yl ≤ c3 ∧ c3 ≤ 9223372036854775807) ∧ Calm W w') := fun hs2 W hW =>
    minv_a fs n2 c2 yl A2 yx yo W (h2.calm hW) hcn2 hcc2 hn2 (smallOf (by decide) hs2) hyo hyx hyl
  have SX : (∀ x ∈ es, SizeE 60 x) → ∀ x ∈ xo, SizeE 120 x := fun hs => by rw [← hxo]; exact inv_size2 hs
  have SY : (∀ x ∈ fs, SizeE 60 x) → ∀ x ∈ yo, SizeE 120 x := fun hs => by rw [← hyo]; exact inv_size2 hs
  have KD : Hid ((∀ x ∈ es, SizeE 60 x) → (∀ x ∈ fs, SizeE 60 x) → ∀ W B kb B2 kb2, EntsA W B yo → yl ≤ kb → kb ≤ 9223372036854775807 → EntsA W B2 xo → xl ≤ kb2 → kb2 ≤ 9223372036854775807 → Calls Tryz.prog 9 #[.slice B yl kb, .slice B2 xl kb2] W fun e w' => (∃ A3 c3, e = .returned (.tuple #[.slice A3 dl c3, .int .i64 dx]) ∧ EntsA w' A3 du ∧ dl ≤ c3 ∧ c3 ≤ 9223372036854775807) ∧ Calm W w') := fun hs hs2 W B kb B2 kb2 g1 g2 g3 g4 g5 g6 =>
    mcom_a yo xo yl kb xl kb2 dl B B2 dx du W g1 g2 g3 hyl (smallOf (by decide) (SY hs2)) g4 g5 g6 hxl (smallOf (by decide) (SX hs)) hdu hdx hdl
  have SC : cx = 0 → (∀ x ∈ es, SizeE 60 x) → (∀ x ∈ fs, SizeE 60 x) → ∀ x ∈ co, SmallE x := fun h0 hs hs2 x hx => (comE_size (K := 60) (by decide) hs hs2 (hcx.trans h0) x (by rw [hco]; exact hx)).mono (by decide)
  have SD : dx = 0 → (∀ x ∈ es, SizeE 60 x) → (∀ x ∈ fs, SizeE 60 x) → ∀ x ∈ du, SmallE x := fun h0 hs hs2 x hx => (comE_size (K := 120) (by decide) (SY hs2) (SX hs) (hdx.trans h0) x (by rw [hdu]; exact hx)).mono (by decide)
  have KCC : cx = 0 → Hid ((∀ x ∈ es, SizeE 60 x) → (∀ x ∈ fs, SizeE 60 x) → ∀ W A3 c3, EntsA W A3 co → cl ≤ c3 → c3 ≤ 9223372036854775807 → Calls Tryz.prog 12 #[.slice A3 cl c3] W fun e w' => e = .returned (.tuple #[.int .i64 (ci : Nat), .int .i64 ce]) ∧ Calm W w') := fun h0 hs hs2 W A3 c3 h1 h3 h4 => by
    have := check_c co cl c3 A3 W h1 h3 h4 (SC h0 hs hs2) hcl
    rw [hci, hce] at this
    exact this
  have KCD : dx = 0 → Hid ((∀ x ∈ es, SizeE 60 x) → (∀ x ∈ fs, SizeE 60 x) → ∀ W A3 c3, EntsA W A3 du → dl ≤ c3 → c3 ≤ 9223372036854775807 → Calls Tryz.prog 12 #[.slice A3 dl c3] W fun e w' => e = .returned (.tuple #[.int .i64 (di : Nat), .int .i64 de]) ∧ Calm W w') := fun h0 hs hs2 W A3 c3 h1 h3 h4 => by
    have := check_c du dl c3 A3 W h1 h3 h4 (SD h0 hs hs2) hdl
    rw [hdi, hde] at this
    exact this
  have HE : dx = 0 → Hid (de = 0 ∨ de = 72) := fun h0 => by
    show de = 0 ∨ de = 72
    have := comE_err (hdx.trans h0)
    rw [hdu, hde] at this
    exact this
  have KB : cx = 0 → Hid ((∀ x ∈ es, SizeE 60 x) → (∀ x ∈ fs, SizeE 60 x) → s.length ≤ 300 → ∀ W A3 c3, Calm w W → EntsA W A3 co → cl ≤ c3 → c3 ≤ 9223372036854775807 → Calls Tryz.prog 15 #[.slice A3 cl c3, .string (bs s)] W fun e w' => e = .returned (.tuple #[.string vs, .bool vb]) ∧ Calm W w') := fun h0 hs hs2 h3 W A3 c3 hW h1 h4 h5 => by
    have := mbwd_c co s cl c3 A3 W h1 h4 h5 hcl (SC h0 hs hs2) h3 (hM.calm hW)
    rw [mbV_eq, optV, hvs, hvb] at this
    exact this
  have KF : cx = 0 → xx = 0 → yx = 0 → dx = 0 → ce = 0 → de = 0 → Hid ((∀ x ∈ es, SizeE 60 x) → (∀ x ∈ fs, SizeE 60 x) → s.length ≤ 300 → ∀ W A3 c3, Calm w W → EntsA W A3 du → dl ≤ c3 → c3 ≤ 9223372036854775807 → Calls Tryz.prog 13 #[.slice A3 dl c3, .string (bs s)] W fun e w' => e = .returned (.tuple #[.string vs, .bool vb]) ∧ Calm W w') := fun h0 h1 h2 h4 h5 h6 hs hs2 h3 W A3 c3 hW g1 g2 g3 => by
    have := mfwd_c du s dl c3 A3 W g1 g2 g3 hdl (SD h4 hs hs2) (by omega) (hM.calm hW)
    have hop := opposite (a := es) (b := fs) (hcx.trans h0) (hxx.trans h1) (hyx.trans h2) (by rw [hyo, hxo]; exact hdx.trans h4) (by rw [hco]; exact hce.trans h5) (by rw [hyo, hxo, hdu]; exact hde.trans h6) s
    rw [hyo, hxo, hdu, hco] at hop
    rw [mfV_eq, ← hop, optV, hvs, hvb] at this
    exact this
  have hsz : (bs s).size = s.length := by simp [bs, ByteArray.size]
  clear h hn h2 hn2 hM hco hcx hcl hxo hxx hxl hyo hyx hyl hdu hdx hdl hci hce hdi hde hvs hvb SX SY SC SD
  go_enter Tryz.func5, Tryz.ntmps5
  go_wp2_with fail
  refine (KS.out w (Calm.refl _)).mono ?_
  rintro e wa0 ⟨⟨b0, rfl, hb0⟩, hc0⟩
  have HB0 := Lib.hid hb0
  have HCa0 : Hid (Calm w wa0) := hc0
  clear hb0 hc0
  cases b0 with
  | false =>
    go_wp2_with fail
    refine (KA.out wa0 HCa0.out).mono ?_
    rintro e wz ⟨rfl, hcz⟩
    go_wp2_with fail
    go_ret
    exact ⟨rfl, HCa0.out.trans hcz⟩
  | true =>
    have HS := Lib.hid (HB0.out rfl)
    go_wp2_with fail
    refine (KS2.out wa0 HCa0.out).mono ?_
    rintro e wa1 ⟨⟨b1, rfl, hb1⟩, hc1⟩
    have HB1 := Lib.hid hb1
    have HCa1 : Hid (Calm w wa1) := HCa0.out.trans hc1
    clear hb1 hc1
    cases b1 with
    | false =>
      go_wp2_with fail
      refine (KA.out wa1 HCa1.out).mono ?_
      rintro e wz ⟨rfl, hcz⟩
      go_wp2_with fail
      go_ret
      exact ⟨rfl, HCa1.out.trans hcz⟩
    | true =>
      have HS2 := Lib.hid (HB1.out rfl)
      by_cases h3 : s.length ≤ 300
      · go_wp2_with fail
        refine (KC.out HS.out HS2.out wa1 HCa1.out).mono ?_
        rintro e w4 ⟨⟨A4, k4, rfl, hE4, hl4, hk4⟩, hc4⟩
        have HC4 : Hid (Calm w w4) := HCa1.out.trans hc4
        have HE4 := Lib.hid hE4
        clear hc4 hE4
        go_wp2_with fail
        refine (KX.out HS.out w4 HC4.out).mono ?_
        rintro e w5 ⟨⟨A5, k5, rfl, hE5, hl5, hk5⟩, hc5⟩
        have HC5 : Hid (Calm w w5) := HC4.out.trans hc5
        have HE45 := Lib.hid (HE4.out.calm hc5)
        have HE5 := Lib.hid hE5
        clear hc5 hE5
        go_wp2_with fail
        refine (KY.out HS2.out w5 HC5.out).mono ?_
        rintro e w6 ⟨⟨A6, k6, rfl, hE6, hl6, hk6⟩, hc6⟩
        have HC6 : Hid (Calm w w6) := HC5.out.trans hc6
        have HE46 := Lib.hid (HE45.out.calm hc6)
        have HE56 := Lib.hid (HE5.out.calm hc6)
        have HE6 := Lib.hid hE6
        clear hc6 hE6
        by_cases h0 : cx = 0
        · subst h0
          have KCC1 := KCC rfl
          have KB1 := KB rfl
          have KF1 := KF rfl
          clear KCC KB KF
          by_cases h1 : xx = 0
          · subst h1
            have KF2 := KF1 rfl
            clear KF1
            by_cases h2 : yx = 0
            · subst h2
              have KF3 := KF2 rfl
              clear KF2
              go_wp2_with fail
              refine (KD.out HS.out HS2.out w6 A6 k6 A5 k5 HE6.out hl6 hk6 HE56.out hl5 hk5).mono ?_
              rintro e w7 ⟨⟨A7, k7, rfl, hE7, hl7, hk7⟩, hc7⟩
              have HC7 : Hid (Calm w w7) := HC6.out.trans hc7
              have HE47 := Lib.hid (HE46.out.calm hc7)
              have HE7 := Lib.hid hE7
              clear hc7 hE7
              go_wp2_with fail
              refine (KCC1.out HS.out HS2.out w7 A4 k4 HE47.out hl4 hk4).mono ?_
              rintro e w8 ⟨rfl, hc8⟩
              have HC8 : Hid (Calm w w8) := HC7.out.trans hc8
              have HE48 := Lib.hid (HE47.out.calm hc8)
              have HE78 := Lib.hid (HE7.out.calm hc8)
              clear hc8
              by_cases h4 : dx = 0
              · subst h4
                have KCD1 := KCD rfl
                have KF4 := KF3 rfl
                have HE1 := HE rfl
                clear KCD KF3 HE
                by_cases h5 : ce = 0
                · subst h5
                  have KF5 := KF4 rfl
                  clear KF4
                  go_wp2_with fail
                  refine (KCD1.out HS.out HS2.out w8 A7 k7 HE78.out hl7 hk7).mono ?_
                  rintro e w9 ⟨rfl, hc9⟩
                  have HC9 : Hid (Calm w w9) := HC8.out.trans hc9
                  have HE49 := Lib.hid (HE48.out.calm hc9)
                  have HE79 := Lib.hid (HE78.out.calm hc9)
                  clear hc9
                  by_cases h6 : de = 0
                  · subst h6
                    have KF6 := KF5 rfl
                    clear KF5 HE1
                    go_wp2_with fail
                    refine (KB1.out HS.out HS2.out h3 w9 A4 k4 HC9.out HE49.out hl4 hk4).mono ?_
                    rintro e wx ⟨rfl, hcx⟩
                    have HCX : Hid (Calm w wx) := HC9.out.trans hcx
                    have HE7X := Lib.hid (HE79.out.calm hcx)
                    clear hcx
                    go_wp2_with fail
                    refine (KF6.out HS.out HS2.out h3 wx A7 k7 HCX.out HE7X.out hl7 hk7).mono ?_
                    rintro e wy ⟨rfl, hcy⟩
                    have HCY : Hid (Calm w wy) := HCX.out.trans hcy
                    clear hcy
                    go_wp2_with fail
                    refine (KA.out wy HCY.out).mono ?_
                    rintro e wz ⟨rfl, hcz⟩
                    go_wp2_with fail
                    go_ret
                    exact ⟨rfl, HCY.out.trans hcz⟩
                  · obtain rfl : de = 72 := by
                      rcases HE1.out with h | h
                      · exact absurd h h6
                      · exact h
                    clear KF5 HE1 h6
                    go_wp2_with fail
                    refine (KA.out w9 HC9.out).mono ?_
                    rintro e wz ⟨rfl, hcz⟩
                    go_wp2_with fail
                    go_ret
                    exact ⟨rfl, HC9.out.trans hcz⟩
                · have hb5 : (ce != 0) = true := by simpa using h5
                  have hb5' : (ce == 0) = false := by rw [beq_eq_false_iff_ne]; exact h5
                  clear KF4 h5
                  go_wp2_with fail
                  refine (KA.out w8 HC8.out).mono ?_
                  rintro e wz ⟨rfl, hcz⟩
                  go_wp2_with fail
                  go_ret
                  exact ⟨rfl, HC8.out.trans hcz⟩
              · have hb4 : (dx != 0) = true := by simpa using h4
                have hb4' : (dx == 0) = false := by rw [beq_eq_false_iff_ne]; exact h4
                clear KCD KF3 HE h4
                go_wp2_with fail
                refine (KA.out w8 HC8.out).mono ?_
                rintro e wz ⟨rfl, hcz⟩
                go_wp2_with fail
                go_ret
                exact ⟨rfl, HC8.out.trans hcz⟩
            · have hb2 : (yx != 0) = true := by simpa using h2
              clear KF2 h2
              go_wp2_with fail
              refine (KA.out w6 HC6.out).mono ?_
              rintro e wz ⟨rfl, hcz⟩
              go_wp2_with fail
              go_ret
              exact ⟨rfl, HC6.out.trans hcz⟩
          · have hb1 : (xx != 0) = true := by simpa using h1
            clear KF1 h1
            go_wp2_with fail
            refine (KA.out w6 HC6.out).mono ?_
            rintro e wz ⟨rfl, hcz⟩
            go_wp2_with fail
            go_ret
            exact ⟨rfl, HC6.out.trans hcz⟩
        · have hb0 : (cx != 0) = true := by simpa using h0
          clear KCC KB KF h0
          go_wp2_with fail
          refine (KA.out w6 HC6.out).mono ?_
          rintro e wz ⟨rfl, hcz⟩
          go_wp2_with fail
          go_ret
          exact ⟨rfl, HC6.out.trans hcz⟩
      · go_wp2_with fail
        refine (KA.out wa1 HCa1.out).mono ?_
        rintro e wz ⟨rfl, hcz⟩
        go_wp2_with fail
        go_ret
        exact ⟨rfl, HCa1.out.trans hcz⟩
set_option maxHeartbeats 8000000 in
theorem mappingAssociates_c (es fs gs : List Ent) (s : Str) (n c n2 c2 n3 c3 : Nat) (A A2 A3 : Option Addr) (w : World) (h : EntsA w A es) (hcn : n ≤ c) (hcc : c ≤ 9223372036854775807) (hn : es.length = n) (h2 : EntsA w A2 fs) (hcn2 : n2 ≤ c2) (hcc2 : c2 ≤ 9223372036854775807) (hn2 : fs.length = n2) (h3 : EntsA w A3 gs) (hcn3 : n3 ≤ c3) (hcc3 : c3 ≤ 9223372036854775807) (hn3 : gs.length = n3) (hsl : s.length ≤ 1048576) (hM : MaxL w) :
    Calls Tryz.prog 6 #[.slice A n c, .slice A2 n2 c2, .slice A3 n3 c3, .string (bs s)] w fun e w' => e = .returned (.bool true) ∧ Calm w w' := by
  have KS : Hid (∀ W, Calm w W → Calls Tryz.prog 7 #[.slice A n c] W fun e w' => (∃ b, e = .returned (.bool b) ∧ (b = true → ∀ x ∈ es, SizeE 60 x)) ∧ Calm W w') := fun W hW => smallK4 es n c A W (h.calm hW) hcn hcc hn
  have KS2 : Hid (∀ W, Calm w W → Calls Tryz.prog 7 #[.slice A2 n2 c2] W fun e w' => (∃ b, e = .returned (.bool b) ∧ (b = true → ∀ x ∈ fs, SizeE 60 x)) ∧ Calm W w') := fun W hW => smallK4 fs n2 c2 A2 W (h2.calm hW) hcn2 hcc2 hn2
  have KS3 : Hid (∀ W, Calm w W → Calls Tryz.prog 7 #[.slice A3 n3 c3] W fun e w' => (∃ b, e = .returned (.bool b) ∧ (b = true → ∀ x ∈ gs, SizeE 60 x)) ∧ Calm W w') := fun W hW => smallK4 gs n3 c3 A3 W (h3.calm hW) hcn3 hcc3 hn3
  have KA : Hid (∀ W, Calm w W → Calls Tryz.prog 8 #[] W fun e w' => e = .returned (.bool true) ∧ Calm W w') := fun W hW => awakeM_c W (hM.calm hW)
  obtain ⟨xo, hxo⟩ : ∃ xo, (comE es fs).1 = xo := ⟨_, rfl⟩
  obtain ⟨xx, hxx⟩ : ∃ xx, (comE es fs).2 = xx := ⟨_, rfl⟩
  obtain ⟨xl, hxl⟩ : ∃ xl, xo.length = xl := ⟨_, rfl⟩
  obtain ⟨yo, hyo⟩ : ∃ yo, (comE fs gs).1 = yo := ⟨_, rfl⟩
  obtain ⟨yx, hyx⟩ : ∃ yx, (comE fs gs).2 = yx := ⟨_, rfl⟩
  obtain ⟨yl, hyl⟩ : ∃ yl, yo.length = yl := ⟨_, rfl⟩
  obtain ⟨po, hpo⟩ : ∃ po, (comE xo gs).1 = po := ⟨_, rfl⟩
  obtain ⟨px, hpx⟩ : ∃ px, (comE xo gs).2 = px := ⟨_, rfl⟩
  obtain ⟨pl, hpl⟩ : ∃ pl, po.length = pl := ⟨_, rfl⟩
  obtain ⟨qo, hqo⟩ : ∃ qo, (comE es yo).1 = qo := ⟨_, rfl⟩
  obtain ⟨qx, hqx⟩ : ∃ qx, (comE es yo).2 = qx := ⟨_, rfl⟩
  obtain ⟨ql, hql⟩ : ∃ ql, qo.length = ql := ⟨_, rfl⟩
  obtain ⟨pi, hpi⟩ : ∃ pi, (mapE po).1 = pi := ⟨_, rfl⟩
  obtain ⟨pe, hpe⟩ : ∃ pe, (mapE po).2 = pe := ⟨_, rfl⟩
  obtain ⟨qi, hqi⟩ : ∃ qi, (mapE qo).1 = qi := ⟨_, rfl⟩
  obtain ⟨qe, hqe⟩ : ∃ qe, (mapE qo).2 = qe := ⟨_, rfl⟩
  obtain ⟨vs, hvs⟩ : ∃ vs, bs ((mfS po s).getD []) = vs := ⟨_, rfl⟩
  obtain ⟨vb, hvb⟩ : ∃ vb, (mfS po s).isSome = vb := ⟨_, rfl⟩
  have KX : Hid ((∀ x ∈ es, SizeE 60 x) → (∀ x ∈ fs, SizeE 60 x) → ∀ W, Calm w W → Calls Tryz.prog 9 #[.slice A n c, .slice A2 n2 c2] W fun e w' => (∃ A3 c3, e = .returned (.tuple #[.slice A3 xl c3, .int .i64 xx]) ∧ EntsA w' A3 xo ∧ xl ≤ c3 ∧ c3 ≤ 9223372036854775807) ∧ Calm W w') := fun hs hs2 W hW =>
    mcom_a es fs n c n2 c2 xl A A2 xx xo W (h.calm hW) hcn hcc hn (smallOf (by decide) hs) (h2.calm hW) hcn2 hcc2 hn2 (smallOf (by decide) hs2) hxo hxx hxl
  have KY : Hid ((∀ x ∈ fs, SizeE 60 x) → (∀ x ∈ gs, SizeE 60 x) → ∀ W, Calm w W → Calls Tryz.prog 9 #[.slice A2 n2 c2, .slice A3 n3 c3] W fun e w' => (∃ A4 c4, e = .returned (.tuple #[.slice A4 yl c4, .int .i64 yx]) ∧ EntsA w' A4 yo ∧ yl ≤ c4 ∧ c4 ≤ 9223372036854775807) ∧ Calm W w') := fun hs2 hs3 W hW =>
    mcom_a fs gs n2 c2 n3 c3 yl A2 A3 yx yo W (h2.calm hW) hcn2 hcc2 hn2 (smallOf (by decide) hs2) (h3.calm hW) hcn3 hcc3 hn3 (smallOf (by decide) hs3) hyo hyx hyl
  have KSX : Hid (∀ W A4 k4, EntsA W A4 xo → xl ≤ k4 → k4 ≤ 9223372036854775807 → Calls Tryz.prog 7 #[.slice A4 xl k4] W fun e w' => (∃ b, e = .returned (.bool b) ∧ (b = true → ∀ x ∈ xo, SizeE 60 x)) ∧ Calm W w') := fun W A4 k4 g1 g2 g3 => smallK4 xo xl k4 A4 W g1 g2 g3 hxl
  have KSY : Hid (∀ W A4 k4, EntsA W A4 yo → yl ≤ k4 → k4 ≤ 9223372036854775807 → Calls Tryz.prog 7 #[.slice A4 yl k4] W fun e w' => (∃ b, e = .returned (.bool b) ∧ (b = true → ∀ x ∈ yo, SizeE 60 x)) ∧ Calm W w') := fun W A4 k4 g1 g2 g3 => smallK4 yo yl k4 A4 W g1 g2 g3 hyl
  have KP : Hid ((∀ x ∈ xo, SizeE 60 x) → (∀ x ∈ gs, SizeE 60 x) → ∀ W B kb, Calm w W → EntsA W B xo → xl ≤ kb → kb ≤ 9223372036854775807 → Calls Tryz.prog 9 #[.slice B xl kb, .slice A3 n3 c3] W fun e w' => (∃ A4 c4, e = .returned (.tuple #[.slice A4 pl c4, .int .i64 px]) ∧ EntsA w' A4 po ∧ pl ≤ c4 ∧ c4 ≤ 9223372036854775807) ∧ Calm W w') := fun hs hs3 W B kb hW g1 g2 g3 =>
    mcom_a xo gs xl kb n3 c3 pl B A3 px po W g1 g2 g3 hxl (smallOf (by decide) hs) (h3.calm hW) hcn3 hcc3 hn3 (smallOf (by decide) hs3) hpo hpx hpl
  have KQ : Hid ((∀ x ∈ es, SizeE 60 x) → (∀ x ∈ yo, SizeE 60 x) → ∀ W B kb, Calm w W → EntsA W B yo → yl ≤ kb → kb ≤ 9223372036854775807 → Calls Tryz.prog 9 #[.slice A n c, .slice B yl kb] W fun e w' => (∃ A4 c4, e = .returned (.tuple #[.slice A4 ql c4, .int .i64 qx]) ∧ EntsA w' A4 qo ∧ ql ≤ c4 ∧ c4 ≤ 9223372036854775807) ∧ Calm W w') := fun hs hs3 W B kb hW g1 g2 g3 =>
    mcom_a es yo n c yl kb ql A B qx qo W (h.calm hW) hcn hcc hn (smallOf (by decide) hs) g1 g2 g3 hyl (smallOf (by decide) hs3) hqo hqx hql
  have SP : px = 0 → (∀ x ∈ xo, SizeE 60 x) → (∀ x ∈ gs, SizeE 60 x) → ∀ x ∈ po, SmallE x := fun h0 hs hs2 x hx => (comE_size (K := 60) (by decide) hs hs2 (hpx.trans h0) x (by rw [hpo]; exact hx)).mono (by decide)
  have SQ : qx = 0 → (∀ x ∈ es, SizeE 60 x) → (∀ x ∈ yo, SizeE 60 x) → ∀ x ∈ qo, SmallE x := fun h0 hs hs2 x hx => (comE_size (K := 60) (by decide) hs hs2 (hqx.trans h0) x (by rw [hqo]; exact hx)).mono (by decide)
  have KCP : px = 0 → Hid ((∀ x ∈ xo, SizeE 60 x) → (∀ x ∈ gs, SizeE 60 x) → ∀ W B kb, EntsA W B po → pl ≤ kb → kb ≤ 9223372036854775807 → Calls Tryz.prog 12 #[.slice B pl kb] W fun e w' => e = .returned (.tuple #[.int .i64 (pi : Nat), .int .i64 pe]) ∧ Calm W w') := fun h0 hs hs2 W B kb h1 h4 h5 => by
    have := check_c po pl kb B W h1 h4 h5 (SP h0 hs hs2) hpl
    rw [hpi, hpe] at this
    exact this
  have KCQ : qx = 0 → Hid ((∀ x ∈ es, SizeE 60 x) → (∀ x ∈ yo, SizeE 60 x) → ∀ W B kb, EntsA W B qo → ql ≤ kb → kb ≤ 9223372036854775807 → Calls Tryz.prog 12 #[.slice B ql kb] W fun e w' => e = .returned (.tuple #[.int .i64 (qi : Nat), .int .i64 qe]) ∧ Calm W w') := fun h0 hs hs2 W B kb h1 h4 h5 => by
    have := check_c qo ql kb B W h1 h4 h5 (SQ h0 hs hs2) hql
    rw [hqi, hqe] at this
    exact this
  have HEP : px = 0 → Hid (pe = 0 ∨ pe = 72) := fun h0 => by
    show pe = 0 ∨ pe = 72
    have := comE_err (hpx.trans h0)
    rw [hpo, hpe] at this
    exact this
  have HEQ : qx = 0 → Hid (qe = 0 ∨ qe = 72) := fun h0 => by
    show qe = 0 ∨ qe = 72
    have := comE_err (hqx.trans h0)
    rw [hqo, hqe] at this
    exact this
  have KFP : px = 0 → Hid ((∀ x ∈ xo, SizeE 60 x) → (∀ x ∈ gs, SizeE 60 x) → s.length ≤ 300 → ∀ W B kb, Calm w W → EntsA W B po → pl ≤ kb → kb ≤ 9223372036854775807 → Calls Tryz.prog 13 #[.slice B pl kb, .string (bs s)] W fun e w' => e = .returned (.tuple #[.string vs, .bool vb]) ∧ Calm W w') := fun h0 hs hs2 hl3 W B kb hW h1 h4 h5 => by
    have := mfwd_c po s pl kb B W h1 h4 h5 hpl (SP h0 hs hs2) (by omega) (hM.calm hW)
    rw [mfV_eq, optV, hvs, hvb] at this
    exact this
  have KFQ : xx = 0 → yx = 0 → px = 0 → qx = 0 → pe = 0 → qe = 0 → Hid ((∀ x ∈ es, SizeE 60 x) → (∀ x ∈ yo, SizeE 60 x) → s.length ≤ 300 → ∀ W B kb, Calm w W → EntsA W B qo → ql ≤ kb → kb ≤ 9223372036854775807 → Calls Tryz.prog 13 #[.slice B ql kb, .string (bs s)] W fun e w' => e = .returned (.tuple #[.string vs, .bool vb]) ∧ Calm W w') := fun g1 g2 g3 g4 g5 g6 hs hs2 hl3 W B kb hW h1 h4 h5 => by
    have := mfwd_c qo s ql kb B W h1 h4 h5 hql (SQ g4 hs hs2) (by omega) (hM.calm hW)
    have hop := associates (a := es) (b := fs) (c := gs) (hxx.trans g1) (hyx.trans g2) (by rw [hxo]; exact hpx.trans g3) (by rw [hyo]; exact hqx.trans g4) (by rw [hxo, hpo]; exact hpe.trans g5) (by rw [hyo, hqo]; exact hqe.trans g6) s
    rw [hxo, hyo, hpo, hqo] at hop
    rw [mfV_eq, ← hop, optV, hvs, hvb] at this
    exact this
  have hsz : (bs s).size = s.length := by simp [bs, ByteArray.size]
  clear h hn h2 hn2 h3 hn3 hM hxo hxx hxl hyo hyx hyl hpo hpx hpl hqo hqx hql hpi hpe hqi hqe hvs hvb SP SQ
  go_enter Tryz.func6, Tryz.ntmps6
  go_wp2_with fail
  refine (KS.out w (Calm.refl _)).mono ?_
  rintro e wa0 ⟨⟨b0, rfl, hb0⟩, hc0⟩
  have HB0 := Lib.hid hb0
  have HCa0 : Hid (Calm w wa0) := hc0
  clear hb0 hc0
  cases b0 with
  | false =>
    go_wp2_with fail
    refine (KA.out wa0 HCa0.out).mono ?_
    rintro e wz ⟨rfl, hcz⟩
    go_wp2_with fail
    go_ret
    exact ⟨rfl, HCa0.out.trans hcz⟩
  | true =>
    have HS := Lib.hid (HB0.out rfl)
    go_wp2_with fail
    refine (KS2.out wa0 HCa0.out).mono ?_
    rintro e wa1 ⟨⟨b1, rfl, hb1⟩, hc1⟩
    have HB1 := Lib.hid hb1
    have HCa1 : Hid (Calm w wa1) := HCa0.out.trans hc1
    clear hb1 hc1
    cases b1 with
    | false =>
      go_wp2_with fail
      refine (KA.out wa1 HCa1.out).mono ?_
      rintro e wz ⟨rfl, hcz⟩
      go_wp2_with fail
      go_ret
      exact ⟨rfl, HCa1.out.trans hcz⟩
    | true =>
      have HS2 := Lib.hid (HB1.out rfl)
      go_wp2_with fail
      refine (KS3.out wa1 HCa1.out).mono ?_
      rintro e wa2 ⟨⟨b2, rfl, hb2⟩, hc2⟩
      have HB2 := Lib.hid hb2
      have HCa2 : Hid (Calm w wa2) := HCa1.out.trans hc2
      clear hb2 hc2
      cases b2 with
      | false =>
        go_wp2_with fail
        refine (KA.out wa2 HCa2.out).mono ?_
        rintro e wz ⟨rfl, hcz⟩
        go_wp2_with fail
        go_ret
        exact ⟨rfl, HCa2.out.trans hcz⟩
      | true =>
        have HS3 := Lib.hid (HB2.out rfl)
        by_cases hl3 : s.length ≤ 300
        · go_wp2_with fail
          refine (KX.out HS.out HS2.out wa2 HCa2.out).mono ?_
          rintro e w4 ⟨⟨A4, k4, rfl, hE4, hl4, hk4⟩, hc4⟩
          have HC4 : Hid (Calm w w4) := HCa2.out.trans hc4
          have HE4 := Lib.hid hE4
          clear hc4 hE4
          go_wp2_with fail
          refine (KY.out HS2.out HS3.out w4 HC4.out).mono ?_
          rintro e w5 ⟨⟨A5, k5, rfl, hE5, hl5, hk5⟩, hc5⟩
          have HC5 : Hid (Calm w w5) := HC4.out.trans hc5
          have HE45 := Lib.hid (HE4.out.calm hc5)
          have HE5 := Lib.hid hE5
          clear hc5 hE5
          by_cases h0 : xx = 0
          · subst h0
            have KFQ1 := KFQ rfl
            clear KFQ
            by_cases h1 : yx = 0
            · subst h1
              have KFQ2 := KFQ1 rfl
              clear KFQ1
              go_wp2_with fail
              refine (KSX.out w5 A4 k4 HE45.out hl4 hk4).mono ?_
              rintro e w6 ⟨⟨b6, rfl, hb6⟩, hc6⟩
              have HC6 : Hid (Calm w w6) := HC5.out.trans hc6
              have HE46 := Lib.hid (HE45.out.calm hc6)
              have HE56 := Lib.hid (HE5.out.calm hc6)
              have HB6 := Lib.hid hb6
              clear hc6 hb6
              cases b6 with
              | false =>
                go_wp2_with fail
                refine (KA.out w6 HC6.out).mono ?_
                rintro e wz ⟨rfl, hcz⟩
                go_wp2_with fail
                go_ret
                exact ⟨rfl, HC6.out.trans hcz⟩
              | true =>
                have HSX := Lib.hid (HB6.out rfl)
                go_wp2_with fail
                refine (KSY.out w6 A5 k5 HE56.out hl5 hk5).mono ?_
                rintro e w7 ⟨⟨b7, rfl, hb7⟩, hc7⟩
                have HC7 : Hid (Calm w w7) := HC6.out.trans hc7
                have HE47 := Lib.hid (HE46.out.calm hc7)
                have HE57 := Lib.hid (HE56.out.calm hc7)
                have HB7 := Lib.hid hb7
                clear hc7 hb7
                cases b7 with
                | false =>
                  go_wp2_with fail
                  refine (KA.out w7 HC7.out).mono ?_
                  rintro e wz ⟨rfl, hcz⟩
                  go_wp2_with fail
                  go_ret
                  exact ⟨rfl, HC7.out.trans hcz⟩
                | true =>
                  have HSY := Lib.hid (HB7.out rfl)
                  go_wp2_with fail
                  refine (KP.out HSX.out HS3.out w7 A4 k4 HC7.out HE47.out hl4 hk4).mono ?_
                  rintro e w8 ⟨⟨A8, k8, rfl, hE8, hl8, hk8⟩, hc8⟩
                  have HC8 : Hid (Calm w w8) := HC7.out.trans hc8
                  have HE58 := Lib.hid (HE57.out.calm hc8)
                  have HE8 := Lib.hid hE8
                  clear hc8 hE8
                  go_wp2_with fail
                  refine (KQ.out HS.out HSY.out w8 A5 k5 HC8.out HE58.out hl5 hk5).mono ?_
                  rintro e w9 ⟨⟨A9, k9, rfl, hE9, hl9, hk9⟩, hc9⟩
                  have HC9 : Hid (Calm w w9) := HC8.out.trans hc9
                  have HE89 := Lib.hid (HE8.out.calm hc9)
                  have HE9 := Lib.hid hE9
                  clear hc9 hE9
                  by_cases h2 : px = 0
                  · subst h2
                    have KFQ3 := KFQ2 rfl
                    have KCP1 := KCP rfl
                    have KFP1 := KFP rfl
                    have HEP1 := HEP rfl
                    clear KFQ2 KCP KFP HEP
                    by_cases h4 : qx = 0
                    · subst h4
                      have KFQ4 := KFQ3 rfl
                      have KCQ1 := KCQ rfl
                      have HEQ1 := HEQ rfl
                      clear KFQ3 KCQ HEQ
                      go_wp2_with fail
                      refine (KCP1.out HSX.out HS3.out w9 A8 k8 HE89.out hl8 hk8).mono ?_
                      rintro e wp ⟨rfl, hcp⟩
                      have HCp : Hid (Calm w wp) := HC9.out.trans hcp
                      have HE8p := Lib.hid (HE89.out.calm hcp)
                      have HE9p := Lib.hid (HE9.out.calm hcp)
                      clear hcp
                      by_cases h5 : pe = 0
                      · subst h5
                        have KFQ5 := KFQ4 rfl
                        clear KFQ4 HEP1
                        go_wp2_with fail
                        refine (KCQ1.out HS.out HSY.out wp A9 k9 HE9p.out hl9 hk9).mono ?_
                        rintro e wq ⟨rfl, hcq⟩
                        have HCq : Hid (Calm w wq) := HCp.out.trans hcq
                        have HE8q := Lib.hid (HE8p.out.calm hcq)
                        have HE9q := Lib.hid (HE9p.out.calm hcq)
                        clear hcq
                        by_cases h6 : qe = 0
                        · subst h6
                          have KFQ6 := KFQ5 rfl
                          clear KFQ5 HEQ1
                          go_wp2_with fail
                          refine (KFP1.out HSX.out HS3.out hl3 wq A8 k8 HCq.out HE8q.out hl8 hk8).mono ?_
                          rintro e wr ⟨rfl, hcr⟩
                          have HCr : Hid (Calm w wr) := HCq.out.trans hcr
                          have HE9r := Lib.hid (HE9q.out.calm hcr)
                          clear hcr
                          go_wp2_with fail
                          refine (KFQ6.out HS.out HSY.out hl3 wr A9 k9 HCr.out HE9r.out hl9 hk9).mono ?_
                          rintro e wt ⟨rfl, hct⟩
                          have HCt : Hid (Calm w wt) := HCr.out.trans hct
                          clear hct
                          go_wp2_with fail
                          refine (KA.out wt HCt.out).mono ?_
                          rintro e wz ⟨rfl, hcz⟩
                          go_wp2_with fail
                          go_ret
                          exact ⟨rfl, HCt.out.trans hcz⟩
                        · obtain rfl : qe = 72 := by
                            rcases HEQ1.out with h | h
                            · exact absurd h h6
                            · exact h
                          clear KFQ5 HEQ1 h6
                          go_wp2_with fail
                          refine (KA.out wq HCq.out).mono ?_
                          rintro e wz ⟨rfl, hcz⟩
                          go_wp2_with fail
                          go_ret
                          exact ⟨rfl, HCq.out.trans hcz⟩
                      · obtain rfl : pe = 72 := by
                          rcases HEP1.out with h | h
                          · exact absurd h h5
                          · exact h
                        clear KFQ4 HEP1 h5
                        go_wp2_with fail
                        refine (KA.out wp HCp.out).mono ?_
                        rintro e wz ⟨rfl, hcz⟩
                        go_wp2_with fail
                        go_ret
                        exact ⟨rfl, HCp.out.trans hcz⟩
                    · have hb4 : (qx != 0) = true := by simpa using h4
                      clear KFQ3 KCQ HEQ h4
                      go_wp2_with fail
                      refine (KA.out w9 HC9.out).mono ?_
                      rintro e wz ⟨rfl, hcz⟩
                      go_wp2_with fail
                      go_ret
                      exact ⟨rfl, HC9.out.trans hcz⟩
                  · have hb2 : (px != 0) = true := by simpa using h2
                    clear KFQ2 KCP KFP HEP h2
                    go_wp2_with fail
                    refine (KA.out w9 HC9.out).mono ?_
                    rintro e wz ⟨rfl, hcz⟩
                    go_wp2_with fail
                    go_ret
                    exact ⟨rfl, HC9.out.trans hcz⟩
            · have hb1 : (yx != 0) = true := by simpa using h1
              clear KFQ1 h1
              go_wp2_with fail
              refine (KA.out w5 HC5.out).mono ?_
              rintro e wz ⟨rfl, hcz⟩
              go_wp2_with fail
              go_ret
              exact ⟨rfl, HC5.out.trans hcz⟩
          · have hb0 : (xx != 0) = true := by simpa using h0
            clear KFQ h0
            go_wp2_with fail
            refine (KA.out w5 HC5.out).mono ?_
            rintro e wz ⟨rfl, hcz⟩
            go_wp2_with fail
            go_ret
            exact ⟨rfl, HC5.out.trans hcz⟩
        · go_wp2_with fail
          refine (KA.out wa2 HCa2.out).mono ?_
          rintro e wz ⟨rfl, hcz⟩
          go_wp2_with fail
          go_ret
          exact ⟨rfl, HCa2.out.trans hcz⟩
end Go.Proofs.YteplgaabicminaaGreatDoor
