/- The law ViewEntries: its walk. -/
import Derived.Deep.RegionHeld3
import Derived.Deep.RegionWith
import Derived.Test.YtglnkpgfdjnhnaaGreatDoorZEntP
import Derived.Test.YtglnkpgfdjnhnaaGreatDoorZRNarRW
import Derived.Test.YtglnkpgfdjnhnaaGreatDoorZRSimpW
import Derived.Test.YtglnkpgfdjnhnaaGreatDoorZVoidB
import Derived.Test.YtglnkpgfdjnhnaaGreatDoorZViewW
import Derived.Test.YtglnkpgfdjnhnaaGreatDoorZPatsB
import Derived.Test.YtglnkpgfdjnhnaaGreatDoorZSameP
import Derived.Test.YtglnkpgfdjnhnaaGreatDoorZEntM
import Derived.Test.YtglnkpgfdjnhnaaGreatDoorZEntW
import Derived.Test.YtglnkpgfdjnhnaaGreatDoorZAwakeV
set_option linter.unusedVariables false
set_option linter.unusedSimpArgs false
namespace Go.Proofs.YtglnkpgfdjnhnaaGreatDoor
open Go Go.RowKit Sy

/-- An entry whose sides are old, whose holes are new. -/
structure EntO (w0 w : World) (x : NewE) : Prop where
  l : PatA w0 x.LA x.lc x.e.left
  r : PatA w0 x.RA x.rc x.e.right
  h : PatsN w w0.heap.size x.HA x.hc x.e.hs
  few : x.e.hs.length ≤ 16384
theorem EntO.calm {w0 w w' : World} {x : NewE} (h : EntO w0 w x) (hc : Calm w w') : EntO w0 w' x := ⟨h.l, h.r, h.h.calm hc, h.few⟩
theorem EntO.own {w0 w w' : World} {x : NewE} (h : EntO w0 w x) {B0 n K : Nat} {v : Value} {T : TypeId} {xs : List Value} (hT : 36 ≠ T) (hS : 9 ≠ T) (hown : w.ownsRow B0 T K v n xs) (hg : w.grownBy w' v.ownBlock) : EntO w0 w' x :=
  ⟨h.l, h.r, h.h.own hT hS hown hg, h.few⟩
theorem EntO.u {w0 w : World} {x : NewE} (h : EntO w0 w x) (hc : Calm w0 w) : EntU w x := ⟨h.l.calm hc, h.r.calm hc, h.h.reads h.few, h.h.room, h.h.cap⟩
/-- The entries of the first i lines, their sides being the lines' own. -/
structure EntJ (w0 wr : World) (v : Value) (rs : List Rule) (i : Nat) (zs : List NewE) : Prop where
  own : OwnX encE 5 51 w0 wr v zs
  is : entsL rs = (entsL (rs.drop i)).map (zs.map (·.e) ++ ·)
  each : ∀ z ∈ zs, EntO w0 wr z
  few : zs.length ≤ i
theorem EntJ.nil {w0 : World} (rs : List Rule) : EntJ w0 w0 (.slice none 0 0) rs 0 [] := ⟨OwnX.nil (Calm.refl _), by simp, (fun z hz => by cases hz), Nat.le_refl _⟩
theorem EntJ.calm {w0 wr w2 : World} {v : Value} {rs : List Rule} {i : Nat} {zs : List NewE} (h : EntJ w0 wr v rs i zs) (hc : Calm wr w2) : EntJ w0 w2 v rs i zs := ⟨h.own.to hc, h.is, fun z hz => (h.each z hz).calm hc, h.few⟩
theorem EntJ.skip {w0 wr w2 : World} {v : Value} {rs : List Rule} {i : Nat} {zs : List NewE} {r : Rule} (h : EntJ w0 wr v rs i zs) (hr : rs[i]? = some r) (hx : r.excl = true) (hc : Calm wr w2) : EntJ w0 w2 v rs (i + 1) zs := by
  refine ⟨h.own.to hc, ?_, fun z hz => (h.each z hz).calm hc, by have := h.few; omega⟩
  rw [h.is, drop_get hr]
  simp only [entsL]
  rw [if_pos hx]
theorem EntJ.stop {w0 wr : World} {v : Value} {rs : List Rule} {i : Nat} {zs : List NewE} {r : Rule} (h : EntJ w0 wr v rs i zs) (hr : rs[i]? = some r) (hx : r.excl = false) (hn : entHoles r (rs.drop (i + 1)) = none) : entsL rs = none := by
  rw [h.is, drop_get hr]
  simp only [entsL]
  rw [if_neg (by rw [hx]; decide), hn]
  rfl
theorem EntJ.void {w0 wr w2 : World} {v : Value} {rs : List Rule} {i : Nat} {zs : List NewE} {r : Rule} {hs : List Pat} (h : EntJ w0 wr v rs i zs) (hr : rs[i]? = some r) (hx : r.excl = false) (hn : entHoles r (rs.drop (i + 1)) = some hs) (hl : leastLen r.left (redL r.left hs) = 0) (hc : Calm wr w2) : EntJ w0 w2 v rs (i + 1) zs := by
  refine ⟨h.own.to hc, ?_, fun z hz => (h.each z hz).calm hc, by have := h.few; omega⟩
  rw [h.is, drop_get hr]
  simp only [entsL]
  rw [if_neg (by rw [hx]; decide), hn]
  simp only [hl, if_pos]
  simp
theorem EntJ.add {w0 wr w2 w3 : World} {v v2 : Value} {rs : List Rule} {i : Nat} {zs : List NewE} {z : NewE} {r : Rule} {hs : List Pat} (h : EntJ w0 wr v rs i zs) (hr : rs[i]? = some r) (hx : r.excl = false) (hn : entHoles r (rs.drop (i + 1)) = some hs) (hl : leastLen r.left (redL r.left hs) ≠ 0) (hz : z.e = entOf r hs) (hc : Calm wr w2) (hzn : EntO w0 w2 z) (hg : w2.grownBy w3 v.ownBlock) (hown : OwnX encE 5 51 w0 w3 v2 (zs ++ [z])) : EntJ w0 w3 v2 rs (i + 1) (zs ++ [z]) := by
  refine ⟨hown, ?_, fun y hy => ?_, by have := h.few; rw [List.length_append, List.length_singleton]; omega⟩
  · rw [h.is, drop_get hr]
    simp only [entsL]
    rw [if_neg (by rw [hx]; decide), hn]
    simp only [if_neg hl, Option.map_map]
    congr 1
    funext es
    simp [hz]
  · rcases List.mem_append.1 hy with hy | hy
    · exact ((h.each y hy).calm hc).own (by decide) (by decide) (h.own.to hc).own hg
    · rw [List.mem_singleton] at hy
      subst hy
      exact hzn.own (by decide) (by decide) (h.own.to hc).own hg
theorem EntJ.reads {w0 wr : World} {v : Value} {rs : List Rule} {zs : List NewE} (h : EntJ w0 wr v rs rs.length zs) : entsL rs = some (zs.map (·.e)) ∧ ∃ A c, v = .slice A zs.length c ∧ zs.length ≤ c ∧ c ≤ 9223372036854775807 ∧ EntsR wr A (zs.map (·.e)) := by
  refine ⟨?_, ?_⟩
  · rw [h.is, List.drop_length]
    simp [entsL]
  · rcases h.own.row encE_len with ⟨rfl, h0⟩ | ⟨g, c, rfl, h1, h2, _, hr⟩
    · subst h0
      exact ⟨none, 0, rfl, Nat.le_refl _, by omega, [], rfl, fun h => absurd rfl h, fun y hy => by cases hy⟩
    · exact ⟨_, c, rfl, h1, h2, zs, rfl, fun _ => ⟨g, 0, rfl, hr.lt, fun k x hk i u hu => hr.cell k x hk i u hu⟩, fun z hz => (h.each z hz).u h.own.calm⟩
end Go.Proofs.YtglnkpgfdjnhnaaGreatDoor
set_option linter.unusedVariables false
set_option linter.unusedSimpArgs false
namespace Go.Proofs.YtglnkpgfdjnhnaaGreatDoor
open Go Go.RowKit Sy

set_option maxRecDepth 100000 in
set_option maxHeartbeats 16000000 in
theorem rentries_c (rs : List Rule) (RA : Option Addr) (n rc : Nat) (w : World) (hr : RulesU w RA rs) (hsm : ∀ r ∈ rs, SmallV r) (hn : rs.length = n) (h20 : n ≤ 20) (hroom : n ≤ rc) (hcap : rc ≤ 9223372036854775807) :
    Calls Tryz.prog 8 #[.slice RA n rc] w fun e w' => EntEnd (entE rs) e w' ∧ Calm w w' := by
  obtain ⟨ix, hix⟩ : ∃ ix, viewIx rs = ix := ⟨_, rfl⟩
  obtain ⟨x, hx⟩ : ∃ x, viewErr rs = x := ⟨_, rfl⟩
  have KV := rvcheck_v rs ix x RA n rc w hr hsm hn hix hx
  have HR := Lib.hid hr
  have HS := Lib.hid hsm
  have HN := Lib.hid hn
  have HX := Lib.hid hx
  clear hr hsm hn hix hx
  go_enter Tryz.func8, Tryz.ntmps8
  go_wp2_with fail
  refine KV.mono ?_
  rintro e w2 ⟨rfl, hc2⟩
  have HC2 := Lib.hid hc2
  clear hc2 KV
  by_cases hx0 : x = 0
  · subst hx0
    have HG : Hid (∀ r ∈ rs, ruleErr r = 0) := (viewErr_ok.1 HX.out).1
    go_wp2_with fail
    go_loopw [6, 26] (fun v u wr => ∃ (i : Nat) (zs : List NewE), i ≤ n ∧ u = .int .i64 i ∧ Hid (EntJ w2 wr v rs i zs)) (fun _ u _ => n - (intOf u).toNat)
    case atStart => exact ⟨0, [], Nat.zero_le _, rfl, EntJ.nil rs⟩
    case round =>
      obtain ⟨i, zs, hi, rfl, HI⟩ := hrel
      by_cases hlt : i < n
      · obtain ⟨b, o, r, a, rfl, hb2, hri, hat2, hru2⟩ := (HR.out.calm HC2.out).get (k := i) (by rw [HN.out]; exact hlt)
        have hat := hat2.calm HI.out.own.calm hb2
        have hru := hru2.calm HI.out.own.calm
        have hb := Nat.lt_of_lt_of_le hb2 HI.out.own.calm.size
        have HU2x := Lib.hid hru2
        clear hat2 hru2
        obtain ⟨nl, hnl⟩ : ∃ nl, r.left.parts.length = nl := ⟨_, rfl⟩
        obtain ⟨nr, hnr⟩ : ∃ nr, r.right.parts.length = nr := ⟨_, rfl⟩
        obtain ⟨lr, hlr⟩ : ∃ lr, r.left.rest = lr := ⟨_, rfl⟩
        obtain ⟨rr, hrr⟩ : ∃ rr, r.right.rest = rr := ⟨_, rfl⟩
        obtain ⟨ex, hex⟩ : ∃ ex, r.excl = ex := ⟨_, rfl⟩
        have c0 := hat.c0
        have c1 := hat.c1
        have c2 := hat.c2
        have c3 := hat.c3
        have c4 := hat.c4
        rw [hnl] at c1
        rw [hnr] at c3
        rw [hlr] at c2
        rw [hrr] at c4
        rw [hex] at c0
        have HNN := Lib.hid (And.intro hnl (And.intro hnr (And.intro hlr (And.intro hrr hex))))
        have HRi := Lib.hid hri
        have HRu := Lib.hid hru
        have HSr : Hid (SmallV r) := HS.out r (List.mem_of_getElem? hri)
        clear hat hnl hnr hlr hrr hex hri hru
        cases ex with
        | true =>
          go_wp2_with fail
          go_roundw
          case rel => exact ⟨i + 1, zs, by omega, by go_num, HI.out.skip HRi.out HNN.out.2.2.2.2 ((Calm.refl _).alloc _)⟩
          case measure => simp [intOf]; omega
        | false =>
          have hi1 : (0 : Int) ≤ (i : Int) + 1 := by omega
          have hi2 : (i : Int) + 1 ≤ (n : Int) := by omega
          have hi3 : (n : Int) ≤ (rc : Int) := by omega
          have hi4 : i + 1 ≤ n := by omega
          have hiw : IntKind.i64.wrap ((i : Int) + 1) = (i : Int) + 1 := by rw [IntKind.wrap_i64]; omega
          have hsp : rc = i + 1 ∨ ¬ rc = i + 1 := Decidable.em _
          rcases hsp with rfl | hsp
          all_goals
            go_wp2_with fail
            obtain ⟨w3, hw3⟩ : ∃ w3, w3 = wr.alloc (.cells #[.bool false, .slice a.AL nl a.cl, .bool lr, .slice a.AR nr a.cr, .bool rr] 38) := ⟨_, rfl⟩
            have HB8 : Hid (FiveB w3 wr.heap.size (.bool false) (.slice a.AL nl a.cl) (.bool lr) (.slice a.AR nr a.cr) (.bool rr)) := by
              show FiveB _ _ _ _ _ _ _
              rw [hw3]
              exact FiveB.new wr _ _ _ _ _ _
            have HW3 : Hid (Calm wr w3) := by
              show Below _ _ _
              rw [hw3]
              exact (Calm.refl _).alloc _
            rw [← hw3]
            obtain ⟨B8, hB8⟩ : ∃ B8, wr.heap.size = B8 := ⟨_, rfl⟩
            rw [hB8] at HB8
            simp only [hB8]
            have HBne : Hid (some B8 ≠ u6.ownBlock) := fun e => by
              have := HI.out.own.blk_lt e
              omega
            obtain ⟨L, hL⟩ : ∃ L, n - (i + 1) = L := ⟨_, rfl⟩
            try simp only [hL]
            have HI3 : Hid (EntJ w2 w3 u6 rs i zs) := HI.out.calm HW3.out
            have HR3 : Hid (Calm w w3) := HC2.out.trans HI3.out.own.calm
            have HRu3 : Hid (RuleU w3 a r) := HRu.out.calm HW3.out
            have HLs : Hid ((rs.drop (i + 1)).length = L) := by
              show _ = _
              rw [List.length_drop, HN.out]
              exact hL
            have hb3 : b < w3.heap.size := Nat.lt_of_lt_of_le hb HW3.out.size
            have KN : Hid (∀ (q : Rule) (a' : Pl) (qr : Nat) (qrr : Bool) (W : World), RuleU w3 a' q → SmallV q → q.right.parts.length = qr → q.right.rest = qrr → Calm w3 W → Calls Tryz.prog 19 #[.agg #[.bool false, .slice a.AL nl a.cl, .bool lr, .slice a.AR nr a.cr, .bool rr], .agg #[.slice a'.AR qr a'.cr, .bool qrr]] W fun e w' => NarEnd (narR r q.right) W.heap.size e w' ∧ Calm W w') := fun q a' qr qrr W hq hs hql hqr hW => by
              have := rnright_c r q.right a qr a'.cr qrr a'.AR W (HRu3.out.calm hW) HSr.out.small ⟨(hq.calm hW).right hs.small, hq.rroom, hq.rcap⟩ hql hqr
              unfold ruleV at this
              rw [HNN.out.1, HNN.out.2.1, HNN.out.2.2.1, HNN.out.2.2.2.1, HNN.out.2.2.2.2] at this
              exact this
            have h40 : L ≤ 20 := by omega
            clear hw3 hB8 c0 c1 c2 c3 c4 HI HRu
            go_loopw [9, 38] (fun h u wr => ∃ (k : Nat) (ys : List NewP), k ≤ L ∧ u = .int .i64 k ∧ Hid (HolI w3 wr h r (rs.drop (i + 1)) k ys)) (fun _ u _ => L - (intOf u).toNat)
            case atStart => exact ⟨0, [], Nat.zero_le _, rfl, HolI.nil _ _⟩
            case round =>
              obtain ⟨k, ys, hk, rfl, HH⟩ := hrel
              obtain ⟨wq, rfl⟩ : ∃ wq, wq = wr := ⟨_, rfl⟩
              by_cases hlt2 : k < L
              · first
                | (exfalso; omega)
                | (have HDr : Hid (RulesU w3 (some ⟨b, o + (i + 1) * 5, none⟩) (rs.drop (i + 1))) := (HR.out.calm HR3.out).drop (fun _ => rfl)
                   obtain ⟨b', o', q, a', e9, hbq, hqi, hqat, hqu⟩ := (HDr.out).get (k := k) (by rw [HLs.out]; exact hlt2)
                   obtain ⟨rfl, rfl⟩ : b = b' ∧ o + (i + 1) * 5 = o' := by simpa using e9
                   obtain ⟨ql, hql⟩ : ∃ ql, q.left.parts.length = ql := ⟨_, rfl⟩
                   obtain ⟨qr, hqr⟩ : ∃ qr, q.right.parts.length = qr := ⟨_, rfl⟩
                   obtain ⟨qlr, hqlr⟩ : ∃ qlr, q.left.rest = qlr := ⟨_, rfl⟩
                   obtain ⟨qrr, hqrr⟩ : ∃ qrr, q.right.rest = qrr := ⟨_, rfl⟩
                   obtain ⟨qx, hqx⟩ : ∃ qx, q.excl = qx := ⟨_, rfl⟩
                   have c0 := hqat.c0
                   have c1 := hqat.c1
                   have c2 := hqat.c2
                   have c3 := hqat.c3
                   have c4 := hqat.c4
                   rw [hql] at c1
                   rw [hqr] at c3
                   rw [hqlr] at c2
                   rw [hqrr] at c4
                   rw [hqx] at c0
                   have c0 := Calm.at_ HH.out.own.calm c0 hb3
                   have c1 := Calm.at_ HH.out.own.calm c1 hb3
                   have c2 := Calm.at_ HH.out.own.calm c2 hb3
                   have c3 := Calm.at_ HH.out.own.calm c3 hb3
                   have c4 := Calm.at_ HH.out.own.calm c4 hb3
                   have HQn := Lib.hid (And.intro hql (And.intro hqr (And.intro hqlr (And.intro hqrr hqx))))
                   have HQi := Lib.hid hqi
                   have HQu := Lib.hid hqu
                   have hqm : q ∈ rs := List.mem_of_mem_drop (List.mem_of_getElem? hqi)
                   have HQs : Hid (SmallV q) := HS.out q hqm
                   have hyl := HH.out.len (fun z hz => HG.out z (List.mem_of_mem_drop hz)) trivial
                   have KN2 := Lib.hid (KN.out q a' qr qrr)
                   clear e9 hqi hqat hqu hql hqr hqlr hqrr hqx hqm
                   have HB11 : Hid (FiveB ((wq.alloc (.cells #[.bool qx, .slice a'.AL ql a'.cl, .bool qlr, .slice a'.AR qr a'.cr, .bool qrr] 38)).alloc (.cells #[.slice a'.AL ql a'.cl, .bool qlr] 36)) wq.heap.size (.bool qx) (.slice a'.AL ql a'.cl) (.bool qlr) (.slice a'.AR qr a'.cr) (.bool qrr)) := (FiveB.new wq _ _ _ _ _ _).calm ((Calm.refl _).alloc _)
                   obtain ⟨⟨no, x⟩, hX⟩ : ∃ X, narR r q.right = X := ⟨_, rfl⟩
                   rw [hX] at KN2
                   have HXn := Lib.hid hX
                   clear hX
                   go_wp2_with (at_builtin; refine wpList_append_ps rfl (.tmp 42) (.tmp 45) rfl w3 _ ys [⟨a'.AL, a'.cl, q.left⟩] rfl (HH.out.own.to (((Calm.refl _).alloc _).alloc _)) _ 1 1 rfl rfl (read_newH ⟨a'.AL, a'.cl, q.left⟩ (by simp) HQn.out.1 HQn.out.2.2.1) (by omega) ?_; intro v5 w5 hown5 hg5; have hblk := hg5.block wq.heap.size HB11.out.lt (fun e => by have := HH.out.own.blk_lt e; omega); have e3 := (World.cell?_of_block (a := ⟨wq.heap.size, 3, none⟩) hblk).trans HB11.out.c3; have e4 := (World.cell?_of_block (a := ⟨wq.heap.size, 4, none⟩) hblk).trans HB11.out.c4; have HO5 := Lib.hid hown5; have HG5 := Lib.hid hg5; have b8 := HB8.out.calm hown5.calm; have d0 := b8.c0; have d1 := b8.c1; have d2 := b8.c2; have d3 := b8.c3; have d4 := b8.c4; clear hblk b8 hown5 hg5)
                   refine (KN2.out w5 HQu.out HQs.out HQn.out.2.1 HQn.out.2.2.2.1 HO5.out.calm).mono ?_
                   rintro e w6 ⟨hE, hc6⟩
                   have HC6 := Lib.hid hc6
                   have hxe : PatA w3 a'.AL a'.cl q.left := ⟨HQu.out.left HQs.out.small, HQu.out.lroom, HQu.out.lcap⟩
                   have HXe := Lib.hid hxe
                   have HAl : Hid (Calm wq ((wq.alloc (.cells #[.bool qx, .slice a'.AL ql a'.cl, .bool qlr, .slice a'.AR qr a'.cr, .bool qrr] 38)).alloc (.cells #[.slice a'.AL ql a'.cl, .bool qlr] 36))) := ((Calm.refl _).alloc _).alloc _
                   clear hc6 hxe c0 c1 c2 c3 c4 d0 d1 d2 d3 d4 e3 e4
                   rcases hE with ⟨h1, rfl⟩ | ⟨m, a2, h1, rfl, hNm⟩
                   · simp only at h1
                     subst h1
                     simp only
                     by_cases hx0 : x = 0
                     · subst hx0
                       have HSk : Hid (HolI w3 w6 v5 r (rs.drop (i + 1)) (k + 1) (ys ++ [⟨a'.AL, a'.cl, q.left⟩])) := by
                         have h2 := HH.out.skip HQi.out (by rw [HXn.out]) (by rw [HXn.out]) (x := ⟨a'.AL, a'.cl, q.left⟩) rfl HXe.out HAl.out HG5.out HO5.out
                         exact ⟨h2.own.to HC6.out, h2.is, fun y hy => (h2.each y hy).imp id (fun h => h.calm HC6.out)⟩
                       have HSk2 : Hid (HolI w3 (w6.alloc (.cells #[.bool false, .slice none 0 0, .bool false, .slice none 0 0, .bool false] 38)) v5 r (rs.drop (i + 1)) (k + 1) (ys ++ [⟨a'.AL, a'.cl, q.left⟩])) := ⟨HSk.out.own.to ((Calm.refl _).alloc _), HSk.out.is, fun y hy => (HSk.out.each y hy).imp id (fun h => h.calm ((Calm.refl _).alloc _))⟩
                       go_wp2_with fail
                       go_roundw
                       case rel => exact ⟨k + 1, ys ++ [⟨a'.AL, a'.cl, q.left⟩], by omega, by go_num, HSk2⟩
                       case measure => simp [intOf]; omega
                     · have hx1 : (x == 0) = false := by rw [beq_eq_false_iff_ne]; exact hx0
                       have HSt : Hid (entE rs = ([], 61)) := by
                         show _ = _
                         unfold entE
                         rw [HX.out, if_neg (by decide), HI3.out.stop HRi.out HNN.out.2.2.2.2 (HH.out.stop HQi.out (by rw [HXn.out]; exact hx0))]
                       have HCz : Hid (Calm w (w6.alloc (.cells #[.bool false, .slice none 0 0, .bool false, .slice none 0 0, .bool false] 38))) := (HR3.out.trans (HO5.out.calm.trans HC6.out)).alloc _
                       go_wp2_with fail
                       go_ret2
                       exact ⟨.inl (by rw [HSt.out]; exact ⟨rfl, by decide, rfl⟩), HCz.out⟩
                   · have hno : no = some m := congrArg Prod.fst h1
                     have hx0 : x = 0 := congrArg Prod.snd h1
                     subst hno hx0
                     obtain ⟨ml, hml⟩ : ∃ ml, m.left.parts.length = ml := ⟨_, rfl⟩
                     obtain ⟨mr, hmr⟩ : ∃ mr, m.right.parts.length = mr := ⟨_, rfl⟩
                     obtain ⟨mlr, hmlr⟩ : ∃ mlr, m.left.rest = mlr := ⟨_, rfl⟩
                     obtain ⟨mrr, hmrr⟩ : ∃ mrr, m.right.rest = mrr := ⟨_, rfl⟩
                     obtain ⟨mx, hmx⟩ : ∃ mx, m.excl = mx := ⟨_, rfl⟩
                     have hgo : (narR r q.right).1 = some m := by rw [HXn.out]
                     have hz : SmallN w6 w3.heap.size ⟨a2.AL, a2.cl, m.left⟩ := ⟨hNm.l.mono HO5.out.calm.size, by
                       have := (patErr_form (narR_good hgo)).2.2
                       show m.left.parts.length ≤ 16384
                       omega, fun z hz => by
                       have := narR_each hgo (L := 60) (by decide) HSr.out.ls HSr.out.rs HQs.out.rs z hz
                       omega⟩
                     have HZ := Lib.hid hz
                     have HM := Lib.hid (And.intro hml hmlr)
                     unfold ruleV
                     rw [hml, hmr, hmlr, hmrr, hmx]
                     have hm2 := FiveB.new w6 (.bool mx) (.slice a2.AL ml a2.cl) (.bool mlr) (.slice a2.AR mr a2.cr) (.bool mrr) 38
                     have m1 := hm2.c1
                     have m2 := hm2.c2
                     have HAl2 : Hid (Calm w6 ((w6.alloc (.cells #[.bool mx, .slice a2.AL ml a2.cl, .bool mlr, .slice a2.AR mr a2.cr, .bool mrr] 38)).alloc (.cells #[.slice a2.AL ml a2.cl, .bool mlr] 36))) := ((Calm.refl _).alloc _).alloc _
                     clear hm2 hml hmr hmlr hmrr hmx hgo hz hNm h1
                     go_wp2_with (at_builtin; refine wpList_append_ps rfl (.tmp 58) (.tmp 61) rfl w3 _ (ys ++ [⟨a'.AL, a'.cl, q.left⟩]) [⟨a2.AL, a2.cl, m.left⟩] rfl (HO5.out.to (HC6.out.trans (((Calm.refl _).alloc _).alloc _))) _ 1 1 rfl rfl (read_newH ⟨a2.AL, a2.cl, m.left⟩ (by simp) HM.out.1 HM.out.2) (by rw [List.length_append, List.length_singleton]; omega) ?_; intro v7 w7 hown7 hg7)
                     go_roundw
                     case rel => exact ⟨k + 1, (ys ++ [⟨a'.AL, a'.cl, q.left⟩]) ++ [⟨a2.AL, a2.cl, m.left⟩], by omega, by go_num, Lib.hid (HH.out.hit HQi.out (by rw [HXn.out]) (n := m) (by rw [HXn.out]) (x := ⟨a'.AL, a'.cl, q.left⟩) rfl HXe.out HAl.out HG5.out HO5.out (z := ⟨a2.AL, a2.cl, m.left⟩) rfl (HC6.out.trans HAl2.out) (HZ.out.calm HAl2.out) hg7 hown7)⟩
                     case measure => simp [intOf]; omega)
              · obtain rfl : k = L := by omega
                have his : entHoles r (rs.drop (i + 1)) = some (ys.map (·.p)) := by
                  have := HH.out.is
                  rw [List.take_of_length_le (by rw [HLs.out]; exact Nat.le_refl _)] at this
                  exact this
                have hgd := entHoles_good (fun z hz => HG.out z (List.mem_of_mem_drop hz)) his
                have hyl := hgd.2
                rw [List.length_map, HLs.out] at hyl
                obtain ⟨HA, hac, rfl, hps⟩ := HH.out.reads (by omega)
                obtain ⟨N, hN⟩ : ∃ N, ys.length = N := ⟨_, rfl⟩
                obtain ⟨ps, hpe⟩ : ∃ ps, ys.map (·.p) = ps := ⟨_, rfl⟩
                have hpl : ps.length = N := by rw [← hpe, List.length_map, hN]
                rw [hpe] at his hgd hps
                rw [hN] at hyl ⊢
                have HIs := Lib.hid his
                have HPl := Lib.hid hpl
                have hrg : ruleErr r = 0 := HG.out r (List.mem_of_getElem? HRi.out)
                have KSi : Hid (Calls Tryz.prog 20 #[.agg #[.slice a.AL nl a.cl, .bool lr], .slice HA N hac] wq fun e w' => (∃ HA3 hc3, e = .returned (.agg #[.slice a.AL nl a.cl, .bool lr, .slice HA3 (redL r.left ps).length hc3]) ∧ PatsN w' wq.heap.size HA3 hc3 (redL r.left ps)) ∧ Calm wq w') := by
                  have h2 := HRu3.out.calm HH.out.own.calm
                  have := rsimp_c r.left ps a.AL a.cl HA N hac wq ⟨h2.left HSr.out.small, h2.lroom, h2.lcap⟩ hps hpl (ruleErr_twin.1 hrg).lp hgd.1
                  unfold RSEnd at this
                  rw [HNN.out.1, HNN.out.2.2.1] at this
                  exact this
                have HGb : Hid (goodPat r.left) := goodPat_of (ruleErr_twin.1 hrg).lp
                have HGh : Hid (∀ h ∈ redL r.left ps, goodPat h) := fun h hh => goodPat_of (redL_good h hh)
                obtain ⟨hs, hhs⟩ : ∃ hs, redL r.left ps = hs := ⟨_, rfl⟩
                rw [hhs] at KSi HGh
                have HHs := Lib.hid hhs
                obtain ⟨hn, hhn⟩ : ∃ hn, hs.length = hn := ⟨_, rfl⟩
                rw [hhn] at KSi
                have HHn := Lib.hid hhn
                have b8 := HB8.out.calm HH.out.own.calm
                have d1 := b8.c1
                have d2 := b8.c2
                have HHc : Hid (Calm w3 wq) := HH.out.own.calm
                clear b8 his hgd hps hN hpe hpl hrg hhs hhn
                go_wp2_with fail
                refine KSi.out.mono ?_
                rintro e w5 ⟨⟨HA3, hc3, rfl, hP5⟩, hc5⟩
                have hhl : hs.length ≤ 16384 := by
                  have h1 := redL_len r.left ps
                  rw [HHs.out, HPl.out] at h1
                  omega
                obtain ⟨w6, hw6⟩ : ∃ w6, w6 = w5.alloc (.cells #[.slice a.AL nl a.cl, .bool lr, .slice HA3 hn hc3] 46) := ⟨_, rfl⟩
                have hc56 : Calm w5 w6 := by
                  show Below _ _ _
                  rw [hw6]
                  exact (Calm.refl _).alloc _
                obtain ⟨L0, hL0⟩ : ∃ L0, leastLen r.left hs = L0 := ⟨_, rfl⟩
                have KLe : Hid (Calls Tryz.prog 21 #[.agg #[.slice a.AL nl a.cl, .bool lr, .slice HA3 hn hc3]] w6 fun e w' => e = .returned (.int .i64 L0) ∧ Calm w6 w') := by
                  have h2 := HRu3.out.calm (HHc.out.trans (Calm.trans hc5 hc56))
                  have := rlen_v r.left hs L0 a.AL a.cl HA3 hc3 w6 hL0 (h2.left HSr.out.small) ((hP5.reads hhl).calm hc56) HGb.out HGh.out
                  rw [HNN.out.1, HNN.out.2.2.1, HHn.out] at this
                  exact this
                have HVz := Lib.hid hL0
                have HP6 : Hid (PatsN w6 wq.heap.size HA3 hc3 hs) := hP5.calm hc56
                have HC6 : Hid (Calm wq w6) := hc5.trans hc56
                have HC5 : Hid (Calm wq w5) := hc5
                have g0 : w6.cell? ⟨w5.heap.size, 0, none⟩ = some (.slice a.AL nl a.cl) := by rw [hw6]; simp [go_sem]
                have g1 : w6.cell? ⟨w5.heap.size, 1, none⟩ = some (.bool lr) := by rw [hw6]; simp [go_sem]
                have g2 : w6.cell? ⟨w5.heap.size, 2, none⟩ = some (.slice HA3 hn hc3) := by rw [hw6]; simp [go_sem]
                have hlt6 : w5.heap.size < w6.heap.size := by rw [hw6]; simp
                have HG6 := Lib.hid (And.intro g0 (And.intro g1 (And.intro g2 hlt6)))
                have HW6 := Lib.hid hw6
                clear hw6 hc56 hL0 hP5 hc5 g0 g1 g2 hlt6 d1 d2
                go_wp2_with fail
                rw [← HW6.out]
                refine KLe.out.mono ?_
                rintro e w7 ⟨rfl, hc7⟩
                have HC7 : Hid (Calm wq w7) := HC6.out.trans hc7
                have HHl := Lib.hid hhl
                have hHo : Hid (entHoles r (rs.drop (i + 1)) = some ps) := HIs
                by_cases hz0 : L0 = 0
                · subst hz0
                  have h0 : leastLen r.left (redL r.left ps) = 0 := by
                    rw [HHs.out]
                    exact HVz.out
                  have HRel : Hid (EntJ w2 w7 u6 rs (i + 1) zs) := HI3.out.void HRi.out HNN.out.2.2.2.2 hHo.out h0 (HHc.out.trans HC7.out)
                  clear hc7 h0
                  go_wp2_with fail
                  go_roundw
                  case rel => exact ⟨i + 1, zs, by omega, by go_num, HRel⟩
                  case measure => simp [intOf]; omega
                · have h0 : leastLen r.left (redL r.left ps) ≠ 0 := by
                    rw [HHs.out, HVz.out]
                    exact hz0
                  have HL0 := Lib.hid h0
                  have hzp : (0 : Int) < (L0 : Int) := by omega
                  have HB8w : Hid (FiveB w7 B8 (.bool false) (.slice a.AL nl a.cl) (.bool lr) (.slice a.AR nr a.cr) (.bool rr)) := HB8.out.calm (HHc.out.trans HC7.out)
                  have g2 := Calm.at_ hc7 HG6.out.2.2.1 HG6.out.2.2.2
                  have b1 := HB8w.out.c1
                  have b2 := HB8w.out.c2
                  have b3 := HB8w.out.c3
                  have b4 := HB8w.out.c4
                  have HC67 : Hid (Calm w6 w7) := hc7
                  have HEp : Hid ((entOf r ps).hs = hs) := HHs.out
                  have HEh : Hid ((entOf r ps).hs.length = hn) := by
                    show _ = _
                    rw [HEp.out]
                    exact HHn.out
                  have hszq : w2.heap.size ≤ wq.heap.size := (HI3.out.own.calm.trans HHc.out).size
                  have hfew := HI3.out.few
                  have HU2 : Hid (RuleU w2 a r) := HU2x.out
                  clear hc7 h0 hz0
                  go_wp2_with (at_builtin; refine wpList_append_xs (enc := encE) (K := 5) (T := 51) Tryz.underlying25 info_ent rfl (by decide) (by decide) encE_len encE_one rfl (.tmp 71) (.tmp 79) rfl w2 u6 zs [⟨a.AL, a.cl, a.AR, a.cr, HA3, hc3, entOf r ps⟩] rfl (HI3.out.own.to ((HHc.out.trans HC7.out).alloc _)) _ 1 1 rfl rfl (read_newE ⟨a.AL, a.cl, a.AR, a.cr, HA3, hc3, entOf r ps⟩ rfl HNN.out.1 HNN.out.2.2.1 HNN.out.2.1 HNN.out.2.2.2.1 HEh.out) (by omega) ?_; intro v9 w9 hown9 hg9)
                  have HRel : Hid (EntJ w2 w9 v9 rs (i + 1) (zs ++ [⟨a.AL, a.cl, a.AR, a.cr, HA3, hc3, entOf r ps⟩])) :=
                    HI3.out.add HRi.out HNN.out.2.2.2.2 hHo.out HL0.out rfl ((HHc.out.trans HC7.out).alloc _) ⟨⟨HU2.out.left HSr.out.small, HU2.out.lroom, HU2.out.lcap⟩, ⟨HU2.out.right HSr.out.small, HU2.out.rroom, HU2.out.rcap⟩, HEp.out ▸ ((HP6.out.calm (HC67.out.alloc _)).mono hszq), by rw [HEp.out]; exact HHl.out⟩ hg9 hown9
                  go_roundw
                  case rel => exact ⟨i + 1, zs ++ [⟨a.AL, a.cl, a.AR, a.cr, HA3, hc3, entOf r ps⟩], by omega, by go_num, HRel⟩
                  case measure => simp [intOf]; omega
      · obtain rfl : i = n := by omega
        have hI := HI.out
        rw [← HN.out] at hI
        obtain ⟨hes, A, c, rfl, h1, h2, h3⟩ := hI.reads
        have HE : Hid (entE rs = (zs.map (·.e), 0)) := by
          show _ = _
          unfold entE
          rw [HX.out, if_neg (by decide), hes]
        obtain ⟨Z, hZ⟩ : ∃ Z, zs.length = Z := ⟨_, rfl⟩
        have HZ := Lib.hid hZ
        have HR9 := Lib.hid (And.intro h3 (And.intro h1 h2))
        have HC9 : Hid (Calm w2 wr) := HI.out.own.calm
        rw [hZ]
        clear hI hes h1 h2 h3 hZ HI
        go_wp2_with fail
        go_ret2
        exact ⟨.inr ⟨by rw [HE.out], A, c, by rw [HE.out]; simp only [List.length_map]; rw [HZ.out]; rfl, by rw [HE.out]; exact HR9.out.1, by rw [HE.out]; simp only [List.length_map]; exact HR9.out.2.1, HR9.out.2.2⟩, HC2.out.trans HC9.out⟩
  · have HE : Hid (entE rs = ([], x)) := by
      show _ = _
      unfold entE
      rw [HX.out, if_pos hx0]
    have hx1 : (x == 0) = false := by rw [beq_eq_false_iff_ne]; exact hx0
    have HX0 := Lib.hid hx0
    go_wp2_with fail
    go_ret2
    exact ⟨.inl (by rw [HE.out]; exact ⟨rfl, HX0.out, rfl⟩), HC2.out⟩
end Go.Proofs.YtglnkpgfdjnhnaaGreatDoor
set_option linter.unusedVariables false
set_option linter.unusedSimpArgs false
namespace Go.Proofs.YtglnkpgfdjnhnaaGreatDoor
open Go Go.RowKit Sy

/-- A slice of patterns that reads as ps. -/
structure PatsV (w : World) (A : Option Addr) (ps : List Pat) : Prop where
  len : ps.length ≤ 1048576
  at_ : 0 < ps.length → ∃ b o, A = some ⟨b, o, none⟩ ∧ b < w.heap.size ∧ ∀ (k : Nat) p, ps[k]? = some p → ∃ Ak ck, w.cell? ⟨b, o + k * 2, none⟩ = some (.slice Ak p.parts.length ck) ∧ w.cell? ⟨b, o + k * 2 + 1, none⟩ = some (.bool p.rest) ∧ StrsU w Ak p.parts
theorem PatsV.calm {w w' : World} {A : Option Addr} {ps : List Pat} (h : PatsV w A ps) (hc : Calm w w') : PatsV w' A ps :=
  ⟨h.len, fun h0 => by
    obtain ⟨b, o, rfl, hb, hk⟩ := h.at_ h0
    refine ⟨b, o, rfl, Nat.lt_of_lt_of_le hb hc.size, fun k p hp => ?_⟩
    obtain ⟨Ak, ck, h1, h2, h3⟩ := hk k p hp
    exact ⟨Ak, ck, (hc.cell (p := ⟨b, o + k * 2, none⟩) hb).trans h1, (hc.cell (p := ⟨b, o + k * 2 + 1, none⟩) hb).trans h2, h3.calm hc⟩⟩
theorem PatsV.get {w : World} {A : Option Addr} {ps : List Pat} (h : PatsV w A ps) {k : Nat} (hk : k < ps.length) : ∃ b o p Ak ck, A = some ⟨b, o, none⟩ ∧ b < w.heap.size ∧ ps[k]? = some p ∧ w.cell? ⟨b, o + k * 2, none⟩ = some (.slice Ak p.parts.length ck) ∧ w.cell? ⟨b, o + k * 2 + 1, none⟩ = some (.bool p.rest) ∧ StrsU w Ak p.parts := by
  obtain ⟨b, o, hA, hb, hc⟩ := h.at_ (by omega)
  obtain ⟨Ak, ck, h1, h2, h3⟩ := hc k _ (List.getElem?_eq_getElem hk)
  exact ⟨b, o, ps[k], Ak, ck, hA, hb, List.getElem?_eq_getElem hk, h1, h2, h3⟩
theorem PatsR.toV {w : World} {A : Option Addr} {ps : List Pat} (h : PatsR w A ps) : PatsV w A ps :=
  ⟨by have := h.len; omega, fun h0 => by
    obtain ⟨b, o, hA, hb, hk⟩ := h.at_ h0
    refine ⟨b, o, hA, hb, fun k p hp => ?_⟩
    obtain ⟨Ak, ck, h1, h2, _, _, h5⟩ := hk k p hp
    exact ⟨Ak, ck, h1, h2, h5.toU⟩⟩
theorem PatsN.toV {w : World} {B : Nat} {A : Option Addr} {c : Nat} {ps : List Pat} (h : PatsN w B A c ps) (hl : ps.length ≤ 1048576) : PatsV w A ps := by
  obtain ⟨l, h1, h2, h3⟩ := h.ex
  refine ⟨hl, fun h0 => ?_⟩
  rcases h2 with ⟨_, h2⟩ | ⟨g, hA, hg, hr⟩
  · rw [h2] at h0
    exact absurd h0 (Nat.lt_irrefl _)
  · refine ⟨g, 0, hA, hr.lt, fun k p hp => ?_⟩
    rw [← h1, List.getElem?_map] at hp
    obtain ⟨x, hx, rfl⟩ := Option.map_eq_some_iff.1 hp
    exact ⟨x.A, x.c, hr.cell k x hx 0 _ rfl, hr.cell k x hx 1 _ rfl, (h3 x (List.mem_of_getElem? hx)).new.u⟩
theorem same_v (p : Pat) (n c c' : Nat) (re : Bool) (A A' : Option Addr) (w : World) (hp : StrsU w A p.parts) (hq : StrsU w A' p.parts) (hn : p.parts.length = n) (hre : p.rest = re) :
    Calls Tryz.prog 22 #[.agg #[.slice A n c, .bool re], .agg #[.slice A' n c', .bool re]] w fun e w' => e = .returned (.bool true) ∧ Calm w w' := by
  subst hn hre
  exact same_c p p true A c A' c' w hp hq (by simp)

set_option maxHeartbeats 4000000 in
/-- A region twice in memory. -/
theorem rsameg_c (b : Pat) (hs : List Pat) (n m : Nat) (re : Bool) (A : Option Addr) (c : Nat) (HA : Option Addr) (hc : Nat) (A' : Option Addr) (c' : Nat) (HA' : Option Addr) (hc' : Nat) (w : World) (hb : StrsU w A b.parts) (hb' : StrsU w A' b.parts) (hh : PatsV w HA hs) (hh' : PatsV w HA' hs) (hn : b.parts.length = n) (hm : hs.length = m) (hre : b.rest = re) :
    Calls Tryz.prog 23 #[.agg #[.slice A n c, .bool re, .slice HA m hc], .agg #[.slice A' n c', .bool re, .slice HA' m hc']] w fun e w' => e = .returned (.bool true) ∧ Calm w w' := by
  have hml := hh.len
  rw [hm] at hml
  obtain ⟨w1, hw1⟩ : ∃ w1, w1 = (w.alloc (.cells #[.slice A n c, .bool re, .slice HA m hc] 46)).alloc (.cells #[.slice A' n c', .bool re, .slice HA' m hc'] 46) := ⟨_, rfl⟩
  have hc1 : Calm w w1 := by rw [hw1]; exact ((Calm.refl w).alloc _).alloc _
  have hs0 : w.heap.size < w1.heap.size := by rw [hw1]; simp; omega
  have hs1 : w.heap.size + 1 < w1.heap.size := by rw [hw1]; simp
  have k2 : w1.cell? ⟨w.heap.size, 2, none⟩ = some (.slice HA m hc) := by rw [hw1]; simp [go_sem]
  have j2 : w1.cell? ⟨w.heap.size + 1, 2, none⟩ = some (.slice HA' m hc') := by rw [hw1]; simp [go_sem]
  have hsm := same_v b n c c' re A A' w1 (hb.calm hc1) (hb'.calm hc1) hn hre
  have HW := Lib.hid hw1
  have HC := Lib.hid hc1
  have HK := Lib.hid (And.intro k2 (And.intro j2 (And.intro hs0 hs1)))
  have HH := Lib.hid (hh.calm hc1)
  have HH' := Lib.hid (hh'.calm hc1)
  have HM := Lib.hid hm
  clear hw1 hc1 hb hb' hh hh' hn hm hre k2 j2 hs0 hs1
  go_enter Tryz.func23, Tryz.ntmps23
  go_wp2_with fail
  rw [← HW.out]
  refine hsm.mono ?_
  rintro e w2 ⟨rfl, hc2⟩
  have k2 := hc2.at_ HK.out.1 HK.out.2.2.1
  have j2 := hc2.at_ HK.out.2.1 HK.out.2.2.2
  have HC2 := Lib.hid hc2
  clear hc2 hsm
  go_wp2_with fail
  go_loopw [25] (fun u wr => ∃ k : Nat, k ≤ m ∧ u = .int .i64 k ∧ Hid (Calm w1 wr)) (fun u _ => m - (intOf u).toNat)
  case atStart => exact ⟨0, Nat.zero_le _, rfl, HC2.out⟩
  case round =>
    obtain ⟨k, hk, rfl, HCr⟩ := hrel
    by_cases hlt : k < m
    · obtain ⟨bb, o, p, Ak, ck, rfl, hbb, hp, c0, c1, hst⟩ := (HH.out.calm HCr.out).get (k := k) (by rw [HM.out]; exact hlt)
      obtain ⟨bb', o', p', Ak', ck', rfl, hbb', hp', d0, d1, hst'⟩ := (HH'.out.calm HCr.out).get (k := k) (by rw [HM.out]; exact hlt)
      obtain rfl : p = p' := by rw [hp] at hp'; exact Option.some.inj hp'
      obtain ⟨wB, hwB⟩ : ∃ wB, wB = wr.alloc (.cells #[.slice Ak p.parts.length ck, .bool p.rest] 36) := ⟨_, rfl⟩
      have hcB : Calm wr wB := by rw [hwB]; exact (Calm.refl wr).alloc _
      have hbB : bb' < wB.heap.size := Nat.lt_of_lt_of_le hbb' hcB.size
      have t0 : wB.cell? ⟨wr.heap.size, 0, none⟩ = some (.slice Ak p.parts.length ck) := by rw [hwB]; simp [go_sem]
      have t1 : wB.cell? ⟨wr.heap.size, 1, none⟩ = some (.bool p.rest) := by rw [hwB]; simp [go_sem]
      have tlt : wr.heap.size < wB.heap.size := by rw [hwB]; simp [go_sem]
      have K1 := Lib.hid (fun q : CalmTo wB => same_v p p.parts.length ck ck' p.rest Ak Ak' q.w ((hst.calm hcB).calm q.h) ((hst'.calm hcB).calm q.h) rfl rfl)
      have hj := (HCr.out.trans hcB).at_ HK.out.2.1 HK.out.2.2.2
      have hjl := Nat.lt_of_lt_of_le HK.out.2.2.2 (HCr.out.trans hcB).size
      have e0 := fun q : CalmTo wB => q.cell t0 tlt
      have e1 := fun q : CalmTo wB => q.cell t1 tlt
      have e2 := fun q : CalmTo wB => q.cell (hcB.at_ d0 hbb') hbB
      have e3 := fun q : CalmTo wB => q.cell (hcB.at_ d1 hbb') hbB
      have e4 := fun q : CalmTo wB => q.cell hj hjl
      have HWB := Lib.hid hwB
      have HCB := Lib.hid (HCr.out.trans hcB)
      clear hwB hcB t0 t1 tlt hst hst' hp hp' d0 d1 hj hjl hbB
      go_wp2_with fail
      rw [← HWB.out]
      refine wp_region_calm (by kernel_rfl) (by kernel_rfl) ?_
      repeat (go_big_quiet_step ((go_at_call 22; exact calmOf (K1.out _))))
      refine wpQuiet_nil ?_
      intro w7 hc7
      have HC7 := Lib.hid (HCB.out.trans hc7)
      clear hc7 e0 e1 e2 e3 e4
      go_wp2
      go_roundw
      case rel => exact ⟨k + 1, by omega, by go_num, HC7.out⟩
      case measure => simp [intOf]; omega
    · obtain rfl : k = m := by omega
      go_wp2
      go_ret
      exact ⟨rfl, HC.out.trans HCr.out⟩
end Go.Proofs.YtglnkpgfdjnhnaaGreatDoor
set_option linter.unusedVariables false
set_option linter.unusedSimpArgs false
namespace Go.Proofs.YtglnkpgfdjnhnaaGreatDoor
open Go Go.RowKit Sy

set_option maxHeartbeats 4000000 in
theorem sameE_c (es : List Ent) (n c c' : Nat) (A A' : Option Addr) (w : World) (h : EntsR w A es) (h' : EntsR w A' es) (hn : es.length = n) (hl : n ≤ 9223372036854775807) :
    Calls Tryz.prog 9 #[.slice A n c, .slice A' n c'] w fun e w' => e = .returned (.bool true) ∧ Calm w w' := by
  have HE := Lib.hid h
  have HE' := Lib.hid h'
  have HN := Lib.hid hn
  clear h h' hn
  go_enter Tryz.func9, Tryz.ntmps9
  go_wp2_with fail
  go_loopw [13] (fun u wr => ∃ k : Nat, k ≤ n ∧ u = .int .i64 k ∧ Hid (Calm w wr)) (fun u _ => n - (intOf u).toNat)
  case atStart => exact ⟨0, Nat.zero_le _, rfl, Calm.refl _⟩
  case round =>
    obtain ⟨k, hk, rfl, HCr⟩ := hrel
    by_cases hlt : k < n
    · obtain ⟨b, o, z, rfl, hb, hz, c0, c1, c2, c3, c4, hu⟩ := (HE.out.calm HCr.out).get (k := k) (by rw [HN.out]; exact hlt)
      obtain ⟨b', o', z', rfl, hb', hz', d0, d1, d2, d3, d4, hu'⟩ := (HE'.out.calm HCr.out).get (k := k) (by rw [HN.out]; exact hlt)
      have he : z'.e = z.e := by
        rw [hz] at hz'
        exact (Option.some.inj hz').symm
      obtain ⟨e0, he0⟩ : ∃ e0, z.e = e0 := ⟨_, rfl⟩
      rw [he0] at he c0 c1 c2 c3 c4
      rw [he] at d0 d1 d2 d3 d4
      have ul := hu.l
      have ur := hu.r
      have uh := hu.h
      have ul' := hu'.l
      have ur' := hu'.r
      have uh' := hu'.h
      rw [he0] at ul ur uh
      rw [he] at ul' ur' uh'
      obtain ⟨nl, hnl⟩ : ∃ nl, e0.left.parts.length = nl := ⟨_, rfl⟩
      obtain ⟨nr, hnr⟩ : ∃ nr, e0.right.parts.length = nr := ⟨_, rfl⟩
      obtain ⟨lr, hlr⟩ : ∃ lr, e0.left.rest = lr := ⟨_, rfl⟩
      obtain ⟨rr, hrr⟩ : ∃ rr, e0.right.rest = rr := ⟨_, rfl⟩
      obtain ⟨hn, hhn⟩ : ∃ hn, e0.hs.length = hn := ⟨_, rfl⟩
      rw [hnl] at c0 d0
      rw [hlr] at c1 d1
      rw [hnr] at c2 d2
      rw [hrr] at c3 d3
      rw [hhn] at c4 d4
      have K1 := Lib.hid (fun q : CalmTo wr => same_v e0.right nr z.rc z'.rc rr z.RA z'.RA q.w (ur.calm q.h).r.toU (ur'.calm q.h).r.toU hnr hrr)
      have K2 := Lib.hid (fun q : CalmTo wr => rsameg_c e0.left e0.hs nl hn lr z.LA z.lc z.HA z.hc z'.LA z'.lc z'.HA z'.hc q.w (ul.calm q.h).r.toU (ul'.calm q.h).r.toU (uh.calm q.h).toV (uh'.calm q.h).toV hnl hhn hlr)
      have f0 := fun q : CalmTo wr => q.cell c0 hb
      have f1 := fun q : CalmTo wr => q.cell c1 hb
      have f2 := fun q : CalmTo wr => q.cell c2 hb
      have f3 := fun q : CalmTo wr => q.cell c3 hb
      have f4 := fun q : CalmTo wr => q.cell c4 hb
      have g0 := fun q : CalmTo wr => q.cell d0 hb'
      have g1 := fun q : CalmTo wr => q.cell d1 hb'
      have g2 := fun q : CalmTo wr => q.cell d2 hb'
      have g3 := fun q : CalmTo wr => q.cell d3 hb'
      have g4 := fun q : CalmTo wr => q.cell d4 hb'
      clear hz hz' he he0 hu hu' ul ur uh ul' ur' uh' hnl hnr hlr hrr hhn c0 c1 c2 c3 c4 d0 d1 d2 d3 d4
      go_wp2_with fail
      refine wp_region_calm (by kernel_rfl) (by kernel_rfl) ?_
      repeat (go_big_quiet_step (first
        | (go_at_call 22; with_reducible exact calmOf (K1.out _))
        | (go_at_call 23; with_reducible exact calmOf (K2.out _))))
      refine wpQuiet_nil ?_
      intro w7 hc7
      have HC7 : Hid (Calm w w7) := HCr.out.trans hc7
      clear hc7 f0 f1 f2 f3 f4 g0 g1 g2 g3 g4
      go_wp2_with fail
      go_roundw
      case rel => exact ⟨k + 1, by omega, by go_num, HC7⟩
      case measure => simp [intOf]; omega
    · obtain rfl : k = n := by omega
      go_wp2_with fail
      go_ret
      exact ⟨rfl, HCr.out⟩
end Go.Proofs.YtglnkpgfdjnhnaaGreatDoor
set_option linter.unusedVariables false
set_option linter.unusedSimpArgs false
namespace Go.Proofs.YtglnkpgfdjnhnaaGreatDoor
open Go Go.RowKit Sy

theorem EntEnd.out {X : List Ent × Int} {e : Ending} {w' : World} (h : EntEnd X e w') : ∃ A c, e = .returned (.tuple #[.slice A X.1.length c, .int .i64 X.2]) ∧ EntsR w' A X.1 ∧ X.1.length ≤ c ∧ c ≤ 9223372036854775807 := by
  rcases h with ⟨h1, _, rfl⟩ | ⟨h1, A, c, rfl, h2, h3, h4⟩
  · exact ⟨none, 0, by rw [h1]; rfl, by rw [h1]; exact ⟨[], rfl, fun h => absurd rfl h, fun z hz => by cases hz⟩, by rw [h1]; exact Nat.le_refl _, by decide⟩
  · exact ⟨A, c, by rw [h1], h2, h3, h4⟩

set_option maxRecDepth 100000 in
set_option maxHeartbeats 8000000 in
theorem viewEntries_c (v : List Rule) (A : Option Addr) (n c : Nat) (w : World) (hv : RulesU w A v) (hn : v.length = n) (hnc : n ≤ c) (hcc : c ≤ 1048576) (hM : MaxL w) :
    Calls Tryz.prog 3 #[.slice A n c] w fun e w' => e = .returned (.bool true) ∧ Calm w w' := by
  obtain ⟨y, hy⟩ : ∃ y, smallW v = y := ⟨_, rfl⟩
  have hsmall := smallv_c v y A n c w hv hn hy
  have KA : Hid (∀ W, Calm w W → Calls Tryz.prog 6 #[] W fun e w' => e = .returned (.bool true) ∧ Calm W w') := fun W hW => awakev_c W (hM.calm hW)
  cases y with
  | false =>
    clear hv hn hM hy
    go_enter Tryz.func3, Tryz.ntmps3
    go_wp2_with (first
      | (go_at_call 5; refine hsmall.mono ?_; rintro e w2 ⟨rfl, hc2⟩)
      | (go_at_call 6; refine (KA.out w2 hc2).mono ?_; rintro e w3 ⟨rfl, hc3⟩))
    go_ret
    exact ⟨rfl, hc2.trans hc3⟩
  | true =>
    obtain ⟨hsm, h20⟩ := smallW_small hy
    rw [hn] at h20
    obtain ⟨⟨es, x⟩, hX⟩ : ∃ X, entE v = X := ⟨_, rfl⟩
    obtain ⟨l, hl⟩ : ∃ l, es.length = l := ⟨_, rfl⟩
    have KE : Hid (∀ W, Calm w W → Calls Tryz.prog 7 #[.slice A n c] W fun e w' => (∃ A1 c1, e = .returned (.tuple #[.slice A1 l c1, .int .i64 x]) ∧ EntsR w' A1 es ∧ l ≤ c1 ∧ c1 ≤ 9223372036854775807) ∧ Calm W w') := fun W hW => by
      have := entries_c v A n c W (hv.calm hW) hsm hn h20 hnc (by omega)
      rw [hX] at this
      refine this.mono fun e w' h => ?_
      obtain ⟨h1, h2⟩ := h
      obtain ⟨A1, c1, h3, h4, h5, h6⟩ := h1.out
      simp only [hl] at h3 h5
      exact ⟨⟨A1, c1, h3, h4, h5, h6⟩, h2⟩
    have KR : Hid (∀ W, Calm w W → Calls Tryz.prog 8 #[.slice A n c] W fun e w' => (∃ A1 c1, e = .returned (.tuple #[.slice A1 l c1, .int .i64 x]) ∧ EntsR w' A1 es ∧ l ≤ c1 ∧ c1 ≤ 9223372036854775807) ∧ Calm W w') := fun W hW => by
      have := rentries_c v A n c W (hv.calm hW) hsm hn h20 hnc (by omega)
      rw [hX] at this
      refine this.mono fun e w' h => ?_
      obtain ⟨h1, h2⟩ := h
      obtain ⟨A1, c1, h3, h4, h5, h6⟩ := h1.out
      simp only [hl] at h3 h5
      exact ⟨⟨A1, c1, h3, h4, h5, h6⟩, h2⟩
    have KS : Hid (∀ W A1 c1 A2 c2, EntsR W A1 es → EntsR W A2 es → l ≤ 9223372036854775807 → Calls Tryz.prog 9 #[.slice A1 l c1, .slice A2 l c2] W fun e w' => e = .returned (.bool true) ∧ Calm W w') := fun W A1 c1 A2 c2 h1 h2 h3 => sameE_c es l c1 c2 A1 A2 W h1 h2 hl h3
    have hxx : (x == x) = true := by simp
    clear hv hn hM hy hsm hX hl
    go_enter Tryz.func3, Tryz.ntmps3
    go_wp2_with (first
      | (go_at_call 5; refine hsmall.mono ?_; rintro e w2 ⟨rfl, hc2⟩)
      | (go_at_call 7; refine (KE.out w2 hc2).mono ?_; rintro e w3 ⟨⟨A1, c1, rfl, he1, hl1, hl2⟩, hc3⟩; have HC3 := Lib.hid (hc2.trans hc3); have HE1 := Lib.hid he1; clear he1)
      | (go_at_call 8; refine (KR.out w3 HC3.out).mono ?_; rintro e w4 ⟨⟨A2, c2, rfl, he2, hl3, hl4⟩, hc4⟩; have HC4 := Lib.hid (HC3.out.trans hc4); have HE2 := Lib.hid he2; have HE3 := Lib.hid (HE1.out.calm hc4); clear he2)
      | (go_at_call 9; refine (KS.out w4 A1 c1 A2 c2 HE3.out HE2.out (by omega)).mono ?_; rintro e w5 ⟨rfl, hc5⟩; have HC5 := Lib.hid (HC4.out.trans hc5))
      | (go_at_call 6; refine (KA.out w5 HC5.out).mono ?_; rintro e w6 ⟨rfl, hc6⟩))
    go_ret
    exact ⟨rfl, HC5.out.trans hc6⟩
end Go.Proofs.YtglnkpgfdjnhnaaGreatDoor
