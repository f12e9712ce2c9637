/- Walks: the laws MappingRestricts, MappingRestrictMeans. -/
import Derived.Test.YtmfjppaeddbdaaaGreatDoorZRRowM
import Derived.Test.YtmfjppaeddbdaaaGreatDoorZRSimpW
import Derived.Test.YtmfjppaeddbdaaaGreatDoorZVoidB
import Derived.Test.YtmfjppaeddbdaaaGreatDoorZRCommon
import Derived.Test.YtmfjppaeddbdaaaGreatDoorZRstM
import Derived.Test.YtmfjppaeddbdaaaGreatDoorZRNarW
import Derived.Test.YtmfjppaeddbdaaaGreatDoorZOpenEnt
import Derived.Test.YtmfjppaeddbdaaaGreatDoorZRstL
import Derived.Test.YtmfjppaeddbdaaaGreatDoorZLawM2
set_option linter.unusedVariables false
set_option linter.unusedSimpArgs false
namespace Go.Proofs.YtmfjppaeddbdaaaGreatDoor
open Go Go.RowKit Sy
def AddEnd (w0 w' : World) (out : List Ent) (n : Rule) (ps : List Pat) (e : Ending) : Prop := match putH n ps with
  | none => e = .returned (.tuple #[.slice none 0 0, .bool false]) ∧ Calm w0 w'
  | some o => ∃ v' zs', e = .returned (.tuple #[v', .bool true]) ∧ RowV w0 w' v' (out ++ o.toList) zs'
theorem AddEnd.none {w0 w' : World} {out : List Ent} {n : Rule} {ps : List Pat} {e : Ending} (h : AddEnd w0 w' out n ps e) (hp : putH n ps = none) : e = .returned (.tuple #[.slice none 0 0, .bool false]) ∧ Calm w0 w' := by
  unfold AddEnd at h
  rw [hp] at h
  exact h
theorem AddEnd.some {w0 w' : World} {out : List Ent} {n : Rule} {ps : List Pat} {e : Ending} {o : Option Ent} (h : AddEnd w0 w' out n ps e) (hp : putH n ps = some o) : ∃ v' zs', e = .returned (.tuple #[v', .bool true]) ∧ RowV w0 w' v' (out ++ o.toList) zs' := by
  unfold AddEnd at h
  rw [hp] at h
  exact h
theorem FrB.grown {w w2 w3 : World} {B : Nat} {v : Value} (hc : Calm w w2) (hg : w2.grownBy w3 v.ownBlock) (hv : ∀ b, some b = v.ownBlock → b < B) : FrB w w3 B := fun b hb hbs => by
  have h1 := hg.block b (Nat.lt_of_lt_of_le hbs hc.size) (fun e => by have := hv b e; omega)
  exact h1.trans (hc.block b hbs)
set_option maxHeartbeats 8000000 in
theorem radd_c (w0 wq w : World) (v : Value) (out : List Ent) (zs : List NewE) (n : Rule) (ps : List Pat) (a : Pl) (ex : Bool) (nl nr N pc : Nat) (lr rr : Bool) (PA : Option Addr) (h : RowV w0 wq v out zs) (hq : Calm wq w)
    (hl : PatA w0 a.AL a.cl n.left ∨ SmallN w w0.heap.size ⟨a.AL, a.cl, n.left⟩) (hr : PatA w0 a.AR a.cr n.right ∨ SmallN w w0.heap.size ⟨a.AR, a.cr, n.right⟩) (hps : PatsR w PA ps) (hN : ps.length = N) (gl : patErr n.left = 0) (gp : ∀ p ∈ ps, patErr p = 0)
    (hnl : n.left.parts.length = nl) (hnr : n.right.parts.length = nr) (hlr : n.left.rest = lr) (hrr : n.right.rest = rr) (hol : out.length ≤ 1048576) :
    Calls Tryz.prog 60 #[v, .agg #[.bool ex, .slice a.AL nl a.cl, .bool lr, .slice a.AR nr a.cr, .bool rr], .slice PA N pc] w fun e w' => AddEnd w0 w' out n ps e ∧ FrB w w' wq.heap.size := by
  obtain ⟨w1, hw1⟩ : ∃ w1, w1 = w.alloc (.cells #[.bool ex, .slice a.AL nl a.cl, .bool lr, .slice a.AR nr a.cr, .bool rr] 59) := ⟨_, rfl⟩
  obtain ⟨B, hB⟩ : ∃ B, w.heap.size = B := ⟨_, rfl⟩
  have hc1 : Calm w w1 := by rw [hw1]; exact (Calm.refl w).alloc _
  have hb1 : FiveB w1 B (.bool ex) (.slice a.AL nl a.cl) (.bool lr) (.slice a.AR nr a.cr) (.bool rr) := by
    rw [hw1, ← hB]
    exact FiveB.new w _ _ _ _ _ _
  have h0 : Calm w0 w := h.own.calm.trans hq
  have hpl : PatA w a.AL a.cl n.left := hl.elim (fun h => h.calm h0) (fun h => h.a)
  obtain ⟨gs, hgs⟩ : ∃ gs, redL n.left ps = gs := ⟨_, rfl⟩
  obtain ⟨gm, hgm⟩ : ∃ gm, gs.length = gm := ⟨_, rfl⟩
  obtain ⟨L0, hL0⟩ : ∃ L0, leastLen n.left gs = L0 := ⟨_, rfl⟩
  have hgml : gm ≤ 16384 := by
    have h1 := redL_len n.left ps
    have h2 := hps.len
    rw [hgs, hgm] at h1
    omega
  have HGL : Hid (gs.length ≤ 16384) := by
    show gs.length ≤ 16384
    rw [hgm]; exact hgml
  have KS : Hid (∀ W, Calm w W → Calls Tryz.prog 48 #[.agg #[.slice a.AL nl a.cl, .bool lr], .slice PA N pc] W fun e w' => (∃ KA kc, e = .returned (.agg #[.slice a.AL nl a.cl, .bool lr, .slice KA gm kc]) ∧ PatsN w' W.heap.size KA kc gs) ∧ Calm W w') := fun W hW => by
    have := rsimp_c n.left ps a.AL a.cl PA N pc W (hpl.calm hW) (hps.calm hW) hN gl gp
    unfold RSEnd at this
    rw [hnl, hlr, hgs, hgm] at this
    exact this
  have KLn : Hid (∀ W KA kc, Calm w W → PatsR W KA gs → Calls Tryz.prog 42 #[.agg #[.slice a.AL nl a.cl, .bool lr, .slice KA gm kc]] W fun e w' => e = .returned (.int .i64 L0) ∧ Calm W w') := fun W KA kc hW hP =>
    rlenp_v n.left gs L0 nl gm lr a.AL a.cl KA kc W (hpl.calm hW).r hP gl (fun p hp => by rw [← hgs] at hp; exact redL_good p hp) hL0 hnl hgm hlr
  have HP0 : 64 < gm → Hid (putH n ps = none) := fun h => by
    show putH n ps = none
    unfold putH
    rw [hgs, hgm, if_pos h]
  have HP1 : ¬ 64 < gm → L0 = 0 → Hid (putH n ps = some none) := fun h h2 => by
    show putH n ps = some none
    unfold putH
    rw [hgs, hgm, if_neg h, hL0, if_pos h2]
  have HP2 : ¬ 64 < gm → L0 ≠ 0 → Hid (putH n ps = some (some ⟨n.left, n.right, gs⟩)) := fun h h2 => by
    show putH n ps = _
    unfold putH
    rw [hgs, hgm, if_neg h, hL0, if_neg h2]
  have HH := Lib.hid h
  have HQ := Lib.hid hq
  have HC0 := Lib.hid h0
  have HW := Lib.hid hw1
  have HC := Lib.hid hc1
  have HB := Lib.hid hb1
  have HBs := Lib.hid hB
  have HSd := Lib.hid (And.intro hl hr)
  have HN := Lib.hid (And.intro hnl (And.intro hnr (And.intro hlr (And.intro hrr hgm))))
  have hzl : zs.length ≤ 1048576 := by rw [h.len]; exact hol
  have b0 := hb1.c0
  have b1 := hb1.c1
  have b2 := hb1.c2
  have b3 := hb1.c3
  have b4 := hb1.c4
  clear h hq h0 hl hr hps hN gl gp hnl hnr hlr hrr hw1 hc1 hb1 hB hpl hgs hgm hL0
  go_enter Tryz.func60, Tryz.ntmps60
  go_wp2_with fail
  rw [← HW.out]
  refine (KS.out w1 HC.out).mono ?_
  rintro e w3 ⟨⟨KA, kc, rfl, hP⟩, hc3⟩
  rw [HBs.out]
  obtain ⟨w4, hw4⟩ : ∃ w4, w4 = w3.alloc (.cells #[.slice a.AL nl a.cl, .bool lr, .slice KA gm kc] 43) := ⟨_, rfl⟩
  obtain ⟨D, hD⟩ : ∃ D, w3.heap.size = D := ⟨_, rfl⟩
  have hc34 : Calm w3 w4 := by
    show Below _ _ _
    rw [hw4]
    exact (Calm.refl _).alloc _
  have hg4 : RgB w4 D (.slice a.AL nl a.cl) (.bool lr) (.slice KA gm kc) := by rw [hw4, ← hD]; exact RgB.new w3 _ _ _
  have HG4 := Lib.hid hg4
  have HP4 := Lib.hid (hP.calm hc34)
  have HC14 : Hid (Calm w1 w4) := Calm.trans hc3 hc34
  have HC4 : Hid (Calm w w4) := HC.out.trans HC14.out
  have HW4 := Lib.hid hw4
  have HDs := Lib.hid hD
  clear hP hc3 hc34 hw4 hD hg4 b0 b1 b2 b3 b4
  by_cases h64 : 64 < gm
  · have HPu := HP0 h64
    have h64i : (64 : Int) < (gm : Int) := by omega
    clear HP0 HP1 HP2
    go_wp2_with fail
    go_ret2
    refine ⟨?_, fun b hb hbs => ?_⟩
    · unfold AddEnd
      rw [HPu.out, ← HW4.out]
      exact ⟨rfl, HC0.out.trans HC4.out⟩
    · rw [← HW4.out]
      exact HC4.out.block b hbs
  · have h64i : ¬ (64 : Int) < (gm : Int) := by omega
    have HP1' := HP1 h64
    have HP2' := HP2 h64
    clear HP0 HP1 HP2
    go_wp2_with fail
    rw [← HW4.out]
    refine (KLn.out w4 KA kc HC4.out (HP4.out.reads HGL.out)).mono ?_
    rintro e w5 ⟨rfl, hc5⟩
    rw [HDs.out]
    have HC5 : Hid (Calm w w5) := HC4.out.trans hc5
    by_cases hz0 : L0 = 0
    · subst hz0
      have HPu := HP1' rfl
      clear HP1' HP2' hc5
      go_wp2_with fail
      go_ret2
      refine ⟨?_, fun b hb hbs => HC5.out.block b hbs⟩
      unfold AddEnd
      rw [HPu.out]
      exact ⟨v, zs, rfl, by rw [Option.toList_none, List.append_nil]; exact HH.out.to (HQ.out.trans HC5.out)⟩
    · have HPu := HP2' hz0
      have hzp : ((L0 : Int) == 0) = false := by rw [beq_eq_false_iff_ne]; omega
      have hf5 := HB.out.calm (HC14.out.trans hc5)
      have hg5 := HG4.out.calm hc5
      have b1 := hf5.c1
      have b2 := hf5.c2
      have b3 := hf5.c3
      have b4 := hf5.c4
      have g2 := hg5.c2
      have HV5 : Hid (EntV w0 w5 ⟨a.AL, a.cl, a.AR, a.cr, KA, kc, ⟨n.left, n.right, gs⟩⟩) := by
        refine ⟨HSd.out.1.imp id (fun h => h.calm HC5.out), HSd.out.2.imp id (fun h => h.calm HC5.out), ((HP4.out.calm hc5).mono ?_), ?_⟩
        · have h1 := HC.out.size
          have h2 := HC0.out.size
          omega
        · have := HN.out.2.2.2.2
          show gs.length ≤ _
          omega
      clear HP1' HP2' hc5 hf5 hg5 hz0
      go_wp2_with (at_builtin; refine wpList_append_xs (enc := encE) (K := 5) (T := 51) Tryz.underlying22 info_ent rfl (by decide) (by decide) encE_len encE_one rfl (.tmp 21) (.tmp 29) rfl w0 v zs [⟨a.AL, a.cl, a.AR, a.cr, KA, kc, ⟨n.left, n.right, gs⟩⟩] rfl (HH.out.own.to (HQ.out.trans (HC5.out.alloc _))) _ 1 1 rfl rfl (read_newE ⟨a.AL, a.cl, a.AR, a.cr, KA, kc, ⟨n.left, n.right, gs⟩⟩ rfl HN.out.1 HN.out.2.2.1 HN.out.2.1 HN.out.2.2.2.1 HN.out.2.2.2.2) (by omega) ?_; intro v9 w9 hown9 hg9)
      have HRel : Hid (RowV w0 w9 v9 (out ++ [⟨n.left, n.right, gs⟩]) (zs ++ [⟨a.AL, a.cl, a.AR, a.cr, KA, kc, ⟨n.left, n.right, gs⟩⟩])) := HH.out.add (HQ.out.trans (HC5.out.alloc _)) (HV5.out.calm ((Calm.refl _).alloc _)) hg9 hown9
      have HFr : Hid (FrB w w9 wq.heap.size) := FrB.grown (HC5.out.alloc _) hg9 (fun b e => HH.out.own.blk_lt e)
      go_ret2
      refine ⟨?_, HFr.out⟩
      unfold AddEnd
      rw [HPu.out]
      exact ⟨v9, _, rfl, HRel.out⟩
end Go.Proofs.YtmfjppaeddbdaaaGreatDoor
set_option linter.unusedVariables false
set_option linter.unusedSimpArgs false
namespace Go.Proofs.YtmfjppaeddbdaaaGreatDoor
open Go Go.RowKit Sy

set_option maxRecDepth 100000 in
set_option maxHeartbeats 16000000 in
theorem rres_c (es : List Ent) (g : Reg) (n c : Nat) (A : Option Addr) (gA gHA : Option Addr) (gn gc gm ghc : Nat) (gr : Bool) (w : World) (h : EntsA w A es) (hcn : n ≤ c) (hcc : c ≤ 9223372036854775807) (hn : es.length = n) (hsm : ∀ x ∈ es, SmallE x) (hx : RegX w gA gc gHA ghc g) (hgs : SmallX g) (hgn : g.b.parts.length = gn) (hgm : g.hs.length = gm) (hgr : g.b.rest = gr) :
    Calls Tryz.prog 26 #[.slice A n c, .agg #[.slice gA gn gc, .bool gr, .slice gHA gm ghc]] w fun e w' => EntOutR (resE es g).1 (resE es g).2 e w' ∧ Calm w w' := by
  have hl : n ≤ 1048576 := by rw [← hn]; exact h.1
  obtain ⟨er, her⟩ : ∃ er, (mapE es).2 = er := ⟨_, rfl⟩
  obtain ⟨ge, hge⟩ : ∃ ge, gErr g = ge := ⟨_, rfl⟩
  obtain ⟨ix, hix⟩ : ∃ ix, (mapE es).1 = ix := ⟨_, rfl⟩
  obtain ⟨w1, hw1⟩ : ∃ w1, w1 = w.alloc (.cells #[.slice gA gn gc, .bool gr, .slice gHA gm ghc] 43) := ⟨_, rfl⟩
  have hc1 : Calm w w1 := by rw [hw1]; exact (Calm.refl w).alloc _
  have hrb : RgB w1 w.heap.size (.slice gA gn gc) (.bool gr) (.slice gHA gm ghc) := by
    rw [hw1]
    exact RgB.new w _ _ _
  have KC := rmchk_c es n c A w1 (h.calm hc1) hcn hcc hsm hn
  rw [her, hix] at KC
  have KG : Hid (∀ W, Calm w1 W → Calls Tryz.prog 35 #[.agg #[.slice gA gn gc, .bool gr, .slice gHA gm ghc]] W fun e w' => e = .returned (.int .i64 ge) ∧ Calm W w') := fun W hW => by
    have hX := hx.calm (hc1.trans hW)
    have := rgchecku_c g.b g.hs gA gc gHA ghc W hX.base hX.room hX.cap hX.holes
    rw [hgn, hgm, hgr, show regErr g.b g.hs = ge from hge] at this
    exact this
  have HV0 : er ≠ 0 → Hid (resE es g = ([], er)) := fun h0 => by
    show resE es g = _
    unfold resE
    rw [her, if_pos h0]
  have HV1 : er = 0 → ge ≠ 0 → Hid (resE es g = ([], 73)) := fun h0 h1 => by
    show resE es g = _
    unfold resE
    rw [her, if_neg (by simpa using h0), if_pos (by rw [hge]; exact h1)]
  have HV2 : er = 0 → ge = 0 → Hid ((∀ out, resL g es = some out → resE es g = (out, 0)) ∧ (resL g es = none → resE es g = ([], 72)) ∧ Mapping es ∧ gErr g = 0) := fun h0 h1 => by
    refine ⟨fun out ho => ?_, fun ho => ?_, (mapE_zero (her.trans h0)).1, hge.trans h1⟩ <;>
    · unfold resE
      rw [her, if_neg (by simpa using h0), if_neg (by simpa using (hge.trans h1)), ho]
  have HE := Lib.hid h
  have HN := Lib.hid hn
  have HS := Lib.hid hsm
  have HX0 := Lib.hid hx
  have HGS := Lib.hid hgs
  have HGN := Lib.hid (And.intro hgn (And.intro hgm hgr))
  have HW := Lib.hid hw1
  have HC := Lib.hid hc1
  have HRB := Lib.hid hrb
  have HKC := Lib.hid KC
  have q0 := hrb.c0
  have q1 := hrb.c1
  have q2 := hrb.c2
  clear h hn hsm hw1 hc1 KC her hix hx hgs hgn hgm hgr hrb hge
  go_enter Tryz.func26, Tryz.ntmps26
  by_cases h0 : er = 0
  · subst h0
    have HV1' := HV1 rfl
    have HV2' := HV2 rfl
    clear HV0 HV1 HV2
    go_wp2_with fail
    rw [← HW.out]
    refine HKC.out.mono ?_
    rintro e w2 ⟨rfl, hc2⟩
    have HC12 : Hid (Calm w1 w2) := hc2
    have r2 := HRB.out.calm hc2
    have q0 := r2.c0
    have q1 := r2.c1
    have q2 := r2.c2
    clear hc2 r2
    by_cases h1 : ge = 0
    · subst h1
      have HV := HV2' rfl
      clear HV1' HV2'
      go_wp2_with fail
      refine (KG.out w2 HC12.out).mono ?_
      rintro e w3 ⟨rfl, hc3⟩
      have HC13 : Hid (Calm w1 w3) := HC12.out.trans hc3
      clear hc3 q0 q1 q2
      go_wp2_with fail
      go_loopw [8, 27] (fun v u wr => ∃ (k : Nat) (out : List Ent) (zs : List NewE), k ≤ n ∧ u = .int .i64 k ∧ Hid (ResTo g es k out) ∧ Hid (RowV w1 wr v out zs)) (fun _ u _ => n - (intOf u).toNat)
      case atStart => exact ⟨0, [], [], Nat.zero_le _, rfl, ResTo.zero g es, RowV.nil HC13.out⟩
      case round =>
        obtain ⟨k, out, zs, hk, rfl, HT, HCr⟩ := hrel
        obtain ⟨wq, rfl⟩ : ∃ wq, wq = wr := ⟨_, rfl⟩
        have HCq : Hid (Calm w1 wq) := HCr.out.own.calm
        by_cases hlt : k < n
        · obtain ⟨b, o, z, rfl, hb, hz, c0, c1, c2, c3, c4, hua⟩ := (HE.out.calm (HC.out.trans HCq.out)).get (k := k) (by rw [HN.out]; exact hlt)
          have hmem := List.mem_of_getElem? hz
          have hgd := HV.out.2.2.1.good z.e hmem
          have hss := HS.out _ hmem
          have hu := hua.few hss hgd.2
          have hsR : SmallR z.e.rule := ⟨by have := hss.lp; show z.e.left.parts.length ≤ _; omega, fun s hs' => by have := hss.ls s hs'; omega, by have := hss.rp; show z.e.right.parts.length ≤ _; omega, fun s hs' => by have := hss.rs s hs'; omega⟩
          have h64 : z.e.hs.length ≤ 64 := (gErr_zero hgd.2).2.2
          have hgood : ∀ p ∈ z.e.hs ++ g.hs, patErr p = 0 := fun p hp => (List.mem_append.1 hp).elim ((gErr_zero hgd.2).2.1 p) ((gErr_zero HV.out.2.2.2).2.1 p)
          have hgh : g.hs.length ≤ 64 := (gErr_zero HV.out.2.2.2).2.2
          obtain ⟨nl, hnl⟩ : ∃ nl, z.e.left.parts.length = nl := ⟨_, rfl⟩
          obtain ⟨nr, hnr⟩ : ∃ nr, z.e.right.parts.length = nr := ⟨_, rfl⟩
          obtain ⟨lr, hlr⟩ : ∃ lr, z.e.left.rest = lr := ⟨_, rfl⟩
          obtain ⟨rr, hrr⟩ : ∃ rr, z.e.right.rest = rr := ⟨_, rfl⟩
          obtain ⟨hn, hhn⟩ : ∃ hn, z.e.hs.length = hn := ⟨_, rfl⟩
          rw [hnl] at c0
          rw [hlr] at c1
          rw [hnr] at c2
          rw [hrr] at c3
          rw [hhn] at c4
          obtain ⟨B, hB⟩ : ∃ B, wq.heap.size = B := ⟨_, rfl⟩
          obtain ⟨wb, hwb⟩ : ∃ wb, wb = wq.alloc (.cells #[.slice z.LA nl z.lc, .bool lr, .slice z.RA nr z.rc, .bool rr, .slice z.HA hn z.hc] 51) := ⟨_, rfl⟩
          have hf : FiveB wb B (.slice z.LA nl z.lc) (.bool lr) (.slice z.RA nr z.rc) (.bool rr) (.slice z.HA hn z.hc) := by
            rw [hwb, ← hB]
            exact FiveB.new wq _ _ _ _ _ _
          have hcb : Calm wq wb := by
            show Below _ _ _
            rw [hwb]
            exact (Calm.refl _).alloc _
          have KLn : Hid (∀ W, Calls Tryz.prog 34 #[entV z.LA z.RA z.HA nl z.lc nr z.rc hn z.hc lr rr] W fun e w' => e = .returned (.agg #[.bool false, .slice z.LA nl z.lc, .bool lr, .slice z.RA nr z.rc, .bool rr]) ∧ Calm W w') := fun W => rline_c _ _ _ _ _ _ _ _ _ _ _ W
          have KN : Hid (∀ W, Calm wb W → Calls Tryz.prog 59 #[.agg #[.bool false, .slice z.LA nl z.lc, .bool lr, .slice z.RA nr z.rc, .bool rr], .agg #[.slice gA gn gc, .bool gr]] W fun e w' => NarEnd (narL z.e.rule g.b) W.heap.size e w' ∧ Calm W w') := fun W hW => by
            have huW := hu.calm (hcb.trans hW)
            have hpW := (HX0.out.calm (HC.out.trans (HCq.out.trans (hcb.trans hW)))).pat HGS.out HV.out.2.2.2
            have := rnleft_c z.e.rule g.b z.pl gn gc gr gA W ⟨huW.l.r.toU, huW.r.r.toU, huW.l.room, huW.r.room, huW.l.cap, huW.r.cap⟩ hsR hpW HGN.out.1 HGN.out.2.2
            unfold ruleV Ent.rule NewE.pl at this
            simp only [hnl, hnr, hlr, hrr] at this
            exact this
          have HSX : Hid (∀ W : World, Calm wb W → W.cell? ⟨B, 0, none⟩ = some (.slice z.LA nl z.lc) ∧ W.cell? ⟨B, 1, none⟩ = some (.bool lr) ∧ W.cell? ⟨B, 2, none⟩ = some (.slice z.RA nr z.rc) ∧ W.cell? ⟨B, 3, none⟩ = some (.bool rr) ∧ W.cell? ⟨B, 4, none⟩ = some (.slice z.HA hn z.hc) ∧ W.cell? ⟨w.heap.size, 0, none⟩ = some (.slice gA gn gc) ∧ W.cell? ⟨w.heap.size, 1, none⟩ = some (.bool gr)) := fun W hW => by
            have b := hf.calm hW
            have q := HRB.out.calm (HCq.out.trans (hcb.trans hW))
            exact ⟨b.c0, b.c1, b.c2, b.c3, b.c4, q.c0, q.c1⟩
          have HZ := Lib.hid hz
          have HF := Lib.hid hf
          have HCb := Lib.hid hcb
          have HWb := Lib.hid hwb
          have HBB := Lib.hid hB
          have HHn := Lib.hid (And.intro hhn h64)
          have HGd := Lib.hid hgood
          have HGh := Lib.hid hgh
          have HSs := Lib.hid hss
          have HUz := Lib.hid hu
          have hsq : w1.heap.size ≤ wb.heap.size := (HCq.out.trans HCb.out).size
          clear hz hu hua hnl hnr hlr hrr hhn hf hcb hwb hB hmem hgd hss hsR h64 hgood hgh
          go_upto_region 10 with (fail)
          rw [← HWb.out, HBB.out]
          obtain ⟨⟨o', x⟩, hX⟩ : ∃ X, narL z.e.rule g.b = X := ⟨_, rfl⟩
          rw [hX] at KN
          have HX := Lib.hid hX
          clear c0 c1 c2 c3 c4 hX
          rcases o' with _ | m
          · have KN1 : Hid (∀ W, Calm wb W → Calls Tryz.prog 59 #[.agg #[.bool false, .slice z.LA nl z.lc, .bool lr, .slice z.RA nr z.rc, .bool rr], .agg #[.slice gA gn gc, .bool gr]] W fun e w' => e = .returned (.tuple #[.agg #[.bool false, .slice none 0 0, .bool false, .slice none 0 0, .bool false], .bool false, .int .i64 x]) ∧ Calm W w') := fun W hW => (KN.out W hW).mono fun e w' h => by
              obtain ⟨h1, h2⟩ := h
              refine ⟨?_, h2⟩
              rcases h1 with ⟨_, h1⟩ | ⟨m, a2, h1, _⟩
              · exact h1
              · cases h1
            clear KN
            go_cut [12, 13] (fun s u wx => s = .bool false ∧ u = .int .i64 x ∧ Hid (Calm wb wx))
            case first =>
              go_region_held3 (fun W => W.cell? ⟨B, 0, none⟩ = some (.slice z.LA nl z.lc) ∧ W.cell? ⟨B, 1, none⟩ = some (.bool lr) ∧ W.cell? ⟨B, 2, none⟩ = some (.slice z.RA nr z.rc) ∧ W.cell? ⟨B, 3, none⟩ = some (.bool rr) ∧ W.cell? ⟨B, 4, none⟩ = some (.slice z.HA hn z.hc) ∧ W.cell? ⟨w.heap.size, 0, none⟩ = some (.slice gA gn gc) ∧ W.cell? ⟨w.heap.size, 1, none⟩ = some (.bool gr))
                (first
                  | with_reducible exact HSX.out _ (calm5 hcy hcx.size _ _ _ _ _)
                  | with_reducible exact HSX.out _ (calm5 hcy (Nat.le_refl _) _ _ _ _ _)
                  | with_reducible exact HSX.out _ hcy
                  | with_reducible exact HSX.out _ (hcy.alloc _)
                  | with_reducible exact HSX.out _ hcx
                  | with_reducible exact HSX.out _ (hcx.alloc _)
                  | with_reducible exact HSX.out _ (Calm.refl _)
                  | with_reducible exact HSX.out _ (Below.drew (Calm.refl _))
                  | with_reducible exact HSX.out _ (Below.drew ((Calm.refl _).alloc _))
                  | with_reducible exact HSX.out _ ((Calm.refl _).alloc _)
                  | go_keep)
                (first
                  | (go_at_call 34; refine (KLn.out _).mono ?_; rintro e w4 ⟨rfl, hc4⟩; have hcx : Calm wb w4 := Calm.trans (by first | exact Below.drew (Calm.refl _) | exact Below.drew ((Calm.refl _).alloc _) | exact (Calm.refl _).alloc _ | exact Calm.refl _) hc4)
                  | (go_at_call 59; refine (KN1.out _ (hcx.trans (by first | exact Calm.refl _ | exact (Calm.refl _).alloc _))).mono ?_; rintro e w5 ⟨rfl, hc5⟩; have hcy : Calm wb w5 := Calm.trans (hcx.trans (by first | exact Calm.refl _ | exact (Calm.refl _).alloc _)) hc5; (first | (with_reducible have hZ5 : FiveB w5 w4.heap.size (.bool false) (.slice none 0 0) (.bool false) (.slice none 0 0) (.bool false) := FiveB.calm (FiveB.new w4 _ _ _ _ _ _) hc5) | (with_reducible have hZ5 : FiveB w5 wb.heap.size (.bool false) (.slice none 0 0) (.bool false) (.slice none 0 0) (.bool false) := FiveB.calm (FiveB.calm (five_drew wb _) hc4) hc5) | skip); try (have z0 := hZ5.c0; have z1 := hZ5.c1; have z2 := hZ5.c2; have z3 := hZ5.c3; have z4 := hZ5.c4; have f0 := hZ5.fz 0; have f1 := hZ5.fz 1; have f2 := hZ5.fz 2; have f3 := hZ5.fz 3; have f4 := hZ5.fz 4)))
              all_goals
                go_wp2_with fail
                go_meet
                case rel =>
                  first
                    | (refine ⟨rfl, rfl, Lib.hid ?_⟩; with_reducible exact hcy.alloc _)
                    | (refine ⟨rfl, rfl, Lib.hid ?_⟩; with_reducible exact hcy)
                    | (refine ⟨rfl, rfl, Lib.hid ?_⟩; with_reducible exact calm5 hcy hcx.size _ _ _ _ _)
                    | (refine ⟨rfl, rfl, Lib.hid ?_⟩; with_reducible exact calm5 hcy (Nat.le_refl _) _ _ _ _ _)
            case rest =>
              obtain ⟨rfl, rfl, HR⟩ := hcut
              have HCx : Hid (Calm wq wc) := HCb.out.trans HR.out
              by_cases hx0 : x = 0
              · subst hx0
                have HT2 : Hid (ResTo g es (k + 1) (out ++ [])) := HT.out.step HZ.out (resL_miss (by rw [HX.out]) (by rw [HX.out])) (Nat.zero_le _)
                go_wp2_with fail
                go_roundw
                case rel => exact ⟨k + 1, out, zs, by omega, by go_num, by have := HT2.out; rw [List.append_nil] at this; exact this, HCr.out.to HCx.out⟩
                case measure => simp [intOf]; omega
              · have hx1 : (x == 0) = false := by rw [beq_eq_false_iff_ne]; exact hx0
                have hx2 : (x != 0) = true := by simpa using hx0
                have HNo : Hid (resE es g = ([], 72)) := HV.out.2.1 (resTo_stop HZ.out (resL_bad (by rw [HX.out]; exact hx0)))
                clear hx0
                go_wp2_with fail
                go_ret2
                exact ⟨by rw [HNo.out]; exact entOutR_err _ _, HC.out.trans (HCq.out.trans HCx.out)⟩
          · obtain ⟨rfl, hme⟩ : x = 0 ∧ m.excl = false := by
              have h1 : (narL z.e.rule g.b).1 = some m := by rw [HX.out]
              obtain ⟨_, _, g3, m', _, rfl, _, _⟩ := narL_some h1
              rw [HX.out] at g3
              exact ⟨g3, rfl⟩
            have hm1 : (narL z.e.rule g.b).1 = some m := by rw [HX.out]
            have HMt : Hid (Sy.Twin m.left m.right) := ruleErr_twin.1 (narL_good hm1)
            have HMl : Hid (∀ s ∈ m.left.parts, s.length ≤ 16384) := fun s hs' => by
              have := narL_left hm1 (L := 250) (by decide) HSs.out.ls HGS.out.b s hs'
              omega
            have HMr : Hid (∀ s ∈ m.right.parts, s.length ≤ 16384) := fun s hs' => by
              have := narL_each hm1 (L := 250) (by decide) HSs.out.ls HSs.out.rs HGS.out.b s hs'
              omega
            obtain ⟨ml, hml⟩ : ∃ ml, m.left.parts.length = ml := ⟨_, rfl⟩
            obtain ⟨mr, hmr⟩ : ∃ mr, m.right.parts.length = mr := ⟨_, rfl⟩
            obtain ⟨tl, htl⟩ : ∃ tl, m.left.rest = tl := ⟨_, rfl⟩
            obtain ⟨tr, htr⟩ : ∃ tr, m.right.rest = tr := ⟨_, rfl⟩
            have KN1 : Hid (∀ W, Calm wb W → Calls Tryz.prog 59 #[.agg #[.bool false, .slice z.LA nl z.lc, .bool lr, .slice z.RA nr z.rc, .bool rr], .agg #[.slice gA gn gc, .bool gr]] W fun e w' => (∃ a2, e = .returned (.tuple #[.agg #[.bool false, .slice a2.AL ml a2.cl, .bool tl, .slice a2.AR mr a2.cr, .bool tr], .bool true, .int .i64 0]) ∧ RuleN w' W.heap.size a2 m) ∧ Calm W w') := fun W hW => (KN.out W hW).mono fun e w' h => by
              obtain ⟨h1, h2⟩ := h
              refine ⟨?_, h2⟩
              rcases h1 with ⟨h1, _⟩ | ⟨m', a2, h1, h3, h4⟩
              · cases h1
              · obtain rfl : m = m' := by simpa using h1
                refine ⟨a2, ?_, h4⟩
                rw [h3]
                unfold ruleV
                rw [hme, hml, hmr, htl, htr]
            have KP : Hid (∀ (W : World) (a2 : Pl) (PA : Option Addr) (pc : Nat), Calm wq W → NewS W wb.heap.size a2.AL a2.cl m.left.parts → NewS W wb.heap.size a2.AR a2.cr m.right.parts → PatsR W PA (z.e.hs ++ g.hs) → Calls Tryz.prog 60 #[u8, .agg #[.bool false, .slice a2.AL ml a2.cl, .bool tl, .slice a2.AR mr a2.cr, .bool tr], .slice PA (hn + gm) pc] W fun e w' => AddEnd w1 w' out m (z.e.hs ++ g.hs) e ∧ FrB W w' wq.heap.size) := fun W a2 PA pc hW h1 h2 hP => by
              have hL : SmallN W w1.heap.size ⟨a2.AL, a2.cl, m.left⟩ := ⟨h1.mono hsq, by have := (patErr_iff.1 HMt.out.lp).2.2.1; show m.left.parts.length ≤ _; omega, HMl.out⟩
              have hR : SmallN W w1.heap.size ⟨a2.AR, a2.cr, m.right⟩ := ⟨h2.mono hsq, by have := (patErr_iff.1 HMt.out.rp).2.2.1; show m.right.parts.length ≤ _; omega, HMr.out⟩
              exact radd_c w1 wq W u8 out zs m (z.e.hs ++ g.hs) a2 false ml mr (hn + gm) pc tl tr PA HCr.out hW (.inr hL) (.inr hR) hP (by rw [List.length_append, HHn.out.1, HGN.out.2.1]) HMt.out.lp HGd.out hml hmr htl htr (by have := HT.out.2; have := HN.out; omega)
            have HM1 := Lib.hid hm1
            clear KN hme hml hmr htl htr hm1
            go_cut [11, 12, 13] (fun s t u wx => ∃ B10 a2, s = .pointer (some ⟨B10, 0, none⟩) ∧ t = .bool true ∧ u = .int .i64 0 ∧ Hid (LineB wb wx B10 wb.heap.size a2 m (.bool false) (.slice a2.AL ml a2.cl) (.bool tl) (.slice a2.AR mr a2.cr) (.bool tr)))
            case first =>
              go_region_held3 (fun W => W.cell? ⟨B, 0, none⟩ = some (.slice z.LA nl z.lc) ∧ W.cell? ⟨B, 1, none⟩ = some (.bool lr) ∧ W.cell? ⟨B, 2, none⟩ = some (.slice z.RA nr z.rc) ∧ W.cell? ⟨B, 3, none⟩ = some (.bool rr) ∧ W.cell? ⟨B, 4, none⟩ = some (.slice z.HA hn z.hc) ∧ W.cell? ⟨w.heap.size, 0, none⟩ = some (.slice gA gn gc) ∧ W.cell? ⟨w.heap.size, 1, none⟩ = some (.bool gr))
                (first
                  | with_reducible exact HSX.out _ (calm5 hcy hcx.size _ _ _ _ _)
                  | with_reducible exact HSX.out _ (calm5 hcy (Nat.le_refl _) _ _ _ _ _)
                  | with_reducible exact HSX.out _ hcy
                  | with_reducible exact HSX.out _ (hcy.alloc _)
                  | with_reducible exact HSX.out _ hcx
                  | with_reducible exact HSX.out _ (hcx.alloc _)
                  | with_reducible exact HSX.out _ (Calm.refl _)
                  | with_reducible exact HSX.out _ (Below.drew (Calm.refl _))
                  | with_reducible exact HSX.out _ (Below.drew ((Calm.refl _).alloc _))
                  | with_reducible exact HSX.out _ ((Calm.refl _).alloc _)
                  | go_keep)
                (first
                  | (go_at_call 34; refine (KLn.out _).mono ?_; rintro e w4 ⟨rfl, hc4⟩; have hcx : Calm wb w4 := Calm.trans (by first | exact Below.drew (Calm.refl _) | exact Below.drew ((Calm.refl _).alloc _) | exact (Calm.refl _).alloc _ | exact Calm.refl _) hc4)
                  | (go_at_call 59; refine (KN1.out _ (hcx.trans (by first | exact Calm.refl _ | exact (Calm.refl _).alloc _))).mono ?_; rintro e w5 ⟨⟨a2, rfl, hN5⟩, hc5⟩; have hcy : Calm wb w5 := Calm.trans (hcx.trans (by first | exact Calm.refl _ | exact (Calm.refl _).alloc _)) hc5; (first | (with_reducible have hZ5 : FiveB w5 w4.heap.size (.bool false) (.slice none 0 0) (.bool false) (.slice none 0 0) (.bool false) := FiveB.calm (FiveB.new w4 _ _ _ _ _ _) hc5) | (with_reducible have hZ5 : FiveB w5 wb.heap.size (.bool false) (.slice none 0 0) (.bool false) (.slice none 0 0) (.bool false) := FiveB.calm (FiveB.calm (five_drew wb _) hc4) hc5) | skip); try (have z0 := hZ5.c0; have z1 := hZ5.c1; have z2 := hZ5.c2; have z3 := hZ5.c3; have z4 := hZ5.c4; have f0 := hZ5.fz 0; have f1 := hZ5.fz 1; have f2 := hZ5.fz 2; have f3 := hZ5.fz 3; have f4 := hZ5.fz 4)))
              all_goals
                have hs7 := hc4.size
                have hs8 := hcx.size
                have hs9 := hc5.size
                simp [go_sem] at hs7
                go_wp2_with fail
                go_meet
                case rel =>
                  first
                    | (refine ⟨_, a2, rfl, rfl, rfl, Lib.hid ?_⟩; with_reducible exact lineB_new hcy (by omega) hN5)
                    | (refine ⟨_, a2, rfl, rfl, rfl, Lib.hid ?_⟩; with_reducible exact lineB_set hZ5 hcy hs8 (by simp [go_sem]) (by simp [go_sem]; omega) hN5)
                    | (refine ⟨_, a2, rfl, rfl, rfl, Lib.hid ?_⟩; with_reducible exact lineB_set hZ5 hcy (Nat.le_refl _) (by omega) (by omega) hN5)
            case rest =>
              obtain ⟨B10, a2, rfl, rfl, rfl, HR⟩ := hcut
              obtain ⟨wx, rfl⟩ : ∃ wx, wx = wc := ⟨_, rfl⟩
              have HCx : Hid (Calm wb wx) := HR.out.calm
              have HFx : Hid (∀ W : World, Calm wx W → W.cell? ⟨B10, 0, none⟩ = some (.bool false) ∧ W.cell? ⟨B10, 1, none⟩ = some (.slice a2.AL ml a2.cl) ∧ W.cell? ⟨B10, 2, none⟩ = some (.bool tl) ∧ W.cell? ⟨B10, 3, none⟩ = some (.slice a2.AR mr a2.cr) ∧ W.cell? ⟨B10, 4, none⟩ = some (.bool tr) ∧ W.cell? ⟨B, 4, none⟩ = some (.slice z.HA hn z.hc) ∧ W.cell? ⟨w.heap.size, 2, none⟩ = some (.slice gHA gm ghc)) := fun W hW => by
                have b := HR.out.five.calm hW
                have d := HF.out.calm (HCx.out.trans hW)
                have q := HRB.out.calm (HCq.out.trans (HCb.out.trans (HCx.out.trans hW)))
                exact ⟨b.c0, b.c1, b.c2, b.c3, b.c4, d.c4, q.c2⟩
              obtain ⟨lx, hlx, hX⟩ := ((HUz.out.calm (HCb.out.trans HCx.out))).h.places
              obtain ⟨ly, hly, hY⟩ := ((HX0.out.calm (HC.out.trans (HCq.out.trans (HCb.out.trans HCx.out)))).pats HGS.out HV.out.2.2.2).places
              have HLx : Hid (lx.length = hn ∧ lx.map (·.p) = z.e.hs ∧ PatsX wx z.HA lx) := ⟨by rw [← HHn.out.1, ← hlx, List.length_map], hlx, hX⟩
              have HLy : Hid (ly.length = gm ∧ ly.map (·.p) = g.hs ∧ PatsX wx gHA ly) := ⟨by rw [← HGN.out.2.1, ← hly, List.length_map], hly, hY⟩
              have hbx : hn ≤ 64 ∧ gm ≤ 64 := ⟨by have := HHn.out; omega, by have := HGh.out; have := HGN.out.2.1; omega⟩
              have HPs : Hid (∀ (W : World) (A8 : Option Addr) (N8 c8 : Nat), Calm wx W → OwnX encP 2 40 wx W (.slice A8 N8 c8) (lx ++ ly) → PatsR W A8 (z.e.hs ++ g.hs)) := fun W A8 N8 c8 hW hown => by
                have hEv : ∀ z ∈ lx ++ ly, PatA wx z.A z.c z.p := fun z hz => by
                  rcases List.mem_append.1 hz with h | h
                  · exact HLx.out.2.2.each z h
                  · exact HLy.out.2.2.each z h
                have hEl : (lx ++ ly).length ≤ 16384 := by rw [List.length_append, HLx.out.1, HLy.out.1]; omega
                have hEm : (lx ++ ly).map (·.p) = z.e.hs ++ g.hs := by rw [List.map_append, HLx.out.2.1, HLy.out.2.1]
                have hrd := own_readsR hown (fun z hz => (hEv z hz).calm hW) hEl
                rw [hEm] at hrd
                exact hrd
              clear hlx hX hly hY
              have HNw : Hid (∀ W : World, Calm wx W → NewS W wb.heap.size a2.AL a2.cl m.left.parts ∧ NewS W wb.heap.size a2.AR a2.cr m.right.parts) := fun W hW => ⟨HR.out.new.l.calm hW, HR.out.new.r.calm hW⟩
              have HFp : Hid (∀ W W' : World, Calm wx W → FrB W W' wq.heap.size → Calm w1 W' → W'.cell? ⟨B10, 0, none⟩ = some (.bool false) ∧ W'.cell? ⟨B10, 1, none⟩ = some (.slice a2.AL ml a2.cl) ∧ W'.cell? ⟨B10, 2, none⟩ = some (.bool tl) ∧ W'.cell? ⟨B10, 3, none⟩ = some (.slice a2.AR mr a2.cr) ∧ W'.cell? ⟨B10, 4, none⟩ = some (.bool tr) ∧ W'.cell? ⟨B, 4, none⟩ = some (.slice z.HA hn z.hc) ∧ W'.cell? ⟨w.heap.size, 2, none⟩ = some (.slice gHA gm ghc)) := fun W W' hW hf h1 => by
                have b := HR.out.five.calm hW
                have d := HF.out.calm (HCx.out.trans hW)
                have q := HRB.out.calm h1
                have e1 := hf B10 (by have := HR.out.lo; have := HCb.out.size; omega) b.lt
                have e2 := hf B (by have := HBB.out; omega) d.lt
                exact ⟨(World.cell?_of_block (a := ⟨B10, 0, none⟩) e1).trans b.c0, (World.cell?_of_block (a := ⟨B10, 1, none⟩) e1).trans b.c1, (World.cell?_of_block (a := ⟨B10, 2, none⟩) e1).trans b.c2, (World.cell?_of_block (a := ⟨B10, 3, none⟩) e1).trans b.c3, (World.cell?_of_block (a := ⟨B10, 4, none⟩) e1).trans b.c4, (World.cell?_of_block (a := ⟨B, 4, none⟩) e2).trans d.c4, q.c2⟩
              go_upto_region 14 with (fail)
              obtain ⟨PH, hPH⟩ : ∃ PH, putH m (z.e.hs ++ g.hs) = PH := ⟨_, rfl⟩
              have HPH := Lib.hid hPH
              clear hPH
              cases PH with
              | none =>
                have KP1 : Hid (∀ (W : World) (a2 : Pl) (PA : Option Addr) (pc : Nat), Calm wq W → NewS W wb.heap.size a2.AL a2.cl m.left.parts → NewS W wb.heap.size a2.AR a2.cr m.right.parts → PatsR W PA (z.e.hs ++ g.hs) → Calls Tryz.prog 60 #[u8, .agg #[.bool false, .slice a2.AL ml a2.cl, .bool tl, .slice a2.AR mr a2.cr, .bool tr], .slice PA (hn + gm) pc] W fun e w' => (e = .returned (.tuple #[.slice none 0 0, .bool false]) ∧ Calm w1 w') ∧ FrB W w' wq.heap.size) := fun W a2 PA pc hW h1 h2 hP => (KP.out W a2 PA pc hW h1 h2 hP).mono fun e w' h => ⟨AddEnd.none h.1 HPH.out, h.2⟩
                have HNo : Hid (resE es g = ([], 72)) := HV.out.2.1 (resTo_stop HZ.out (resL_far (by rw [HX.out]) HM1.out HPH.out))
                go_cut [8, 12] (fun s u wx2 => s = .slice none 0 0 ∧ u = .bool false ∧ Hid (Calm w1 wx2))
                case first =>
                  go_region_held3 (fun W => W.cell? ⟨B10, 0, none⟩ = some (.bool false) ∧ W.cell? ⟨B10, 1, none⟩ = some (.slice a2.AL ml a2.cl) ∧ W.cell? ⟨B10, 2, none⟩ = some (.bool tl) ∧ W.cell? ⟨B10, 3, none⟩ = some (.slice a2.AR mr a2.cr) ∧ W.cell? ⟨B10, 4, none⟩ = some (.bool tr) ∧ W.cell? ⟨B, 4, none⟩ = some (.slice z.HA hn z.hc) ∧ W.cell? ⟨w.heap.size, 2, none⟩ = some (.slice gHA gm ghc))
                    (first
                      | with_reducible exact HFp.out _ _ hcy hf8 hcol
                      | with_reducible exact HFx.out _ hcy
                      | with_reducible exact HFx.out _ hcx
                      | with_reducible exact HFx.out _ (Calm.refl _)
                      | with_reducible exact HFx.out _ (Below.drew (Calm.refl _))
                      | go_keep)
                    (first
                      | (refine step_append_ps rfl _ (.tmp 48) rfl wx (.slice none 0 0) [] lx (by simp [Act.eval, Act.put]) (OwnX.nil (by first | exact Below.drew (Calm.refl _) | exact Calm.refl _)) z.HA hn z.hc (by simp [Act.eval, Act.put]) HLx.out.1 (HLx.out.2.2.read.calm (by first | exact Below.drew (Calm.refl _) | exact Calm.refl _)) (by simp; omega) ?_; intro v6 w6 hown6 hgr6; rw [List.nil_append] at hown6; obtain ⟨A6, c6, hv6⟩ := hown6.len_shape; rw [HLx.out.1] at hv6; subst hv6; have hcx : Calm wx w6 := hown6.calm)
                      | (refine step_append_ps rfl (.tmp 49) (.tmp 51) rfl wx (.slice A6 hn c6) lx ly (by simp [Act.eval, Act.put]) hown6 gHA gm ghc (by simp [Act.eval, Act.put]) HLy.out.1 (HLy.out.2.2.read.calm hcx) (by rw [HLx.out.1]; omega) ?_; intro v8 w8 hown8 hgr8; obtain ⟨A8, c8, hv8⟩ := hown8.len_shape; rw [List.length_append, HLx.out.1, HLy.out.1] at hv8; subst hv8; have hcy : Calm wx w8 := hown8.calm)
                      | (go_at_call 60; refine (KP1.out _ _ _ _ (HCb.out.trans (HCx.out.trans hcy)) (HNw.out _ hcy).1 (HNw.out _ hcy).2 (HPs.out _ _ _ _ hcy hown8)).mono ?_; rintro e w9 ⟨⟨rfl, hcol⟩, hf8⟩))
                  all_goals
                    go_wp2_with fail
                    go_meet
                    case rel => exact ⟨rfl, rfl, hcol⟩
                case rest =>
                  obtain ⟨rfl, rfl, HCol2⟩ := hcut
                  go_wp2_with fail
                  go_ret2
                  exact ⟨by rw [HNo.out]; exact entOutR_err _ _, HC.out.trans HCol2.out⟩
              | some oo =>
                have KP1 : Hid (∀ (W : World) (a2 : Pl) (PA : Option Addr) (pc : Nat), Calm wq W → NewS W wb.heap.size a2.AL a2.cl m.left.parts → NewS W wb.heap.size a2.AR a2.cr m.right.parts → PatsR W PA (z.e.hs ++ g.hs) → Calls Tryz.prog 60 #[u8, .agg #[.bool false, .slice a2.AL ml a2.cl, .bool tl, .slice a2.AR mr a2.cr, .bool tr], .slice PA (hn + gm) pc] W fun e w' => (∃ v' zs', e = .returned (.tuple #[v', .bool true]) ∧ RowV w1 w' v' (out ++ oo.toList) zs') ∧ FrB W w' wq.heap.size) := fun W a2 PA pc hW h1 h2 hP => (KP.out W a2 PA pc hW h1 h2 hP).mono fun e w' h => ⟨AddEnd.some h.1 HPH.out, h.2⟩
                have HT2 : Hid (ResTo g es (k + 1) (out ++ oo.toList)) := HT.out.step HZ.out (resL_hit (by rw [HX.out]) HM1.out HPH.out) (by cases oo <;> simp)
                go_cut [8, 12] (fun s u wx2 => ∃ zs', u = .bool true ∧ Hid (RowV w1 wx2 s (out ++ oo.toList) zs'))
                case first =>
                  go_region_held3 (fun W => W.cell? ⟨B10, 0, none⟩ = some (.bool false) ∧ W.cell? ⟨B10, 1, none⟩ = some (.slice a2.AL ml a2.cl) ∧ W.cell? ⟨B10, 2, none⟩ = some (.bool tl) ∧ W.cell? ⟨B10, 3, none⟩ = some (.slice a2.AR mr a2.cr) ∧ W.cell? ⟨B10, 4, none⟩ = some (.bool tr) ∧ W.cell? ⟨B, 4, none⟩ = some (.slice z.HA hn z.hc) ∧ W.cell? ⟨w.heap.size, 2, none⟩ = some (.slice gHA gm ghc))
                    (first
                      | with_reducible exact HFp.out _ _ hcy hf8 hcol.own.calm
                      | with_reducible exact HFx.out _ hcy
                      | with_reducible exact HFx.out _ hcx
                      | with_reducible exact HFx.out _ (Calm.refl _)
                      | with_reducible exact HFx.out _ (Below.drew (Calm.refl _))
                      | go_keep)
                    (first
                      | (refine step_append_ps rfl _ (.tmp 48) rfl wx (.slice none 0 0) [] lx (by simp [Act.eval, Act.put]) (OwnX.nil (by first | exact Below.drew (Calm.refl _) | exact Calm.refl _)) z.HA hn z.hc (by simp [Act.eval, Act.put]) HLx.out.1 (HLx.out.2.2.read.calm (by first | exact Below.drew (Calm.refl _) | exact Calm.refl _)) (by simp; omega) ?_; intro v6 w6 hown6 hgr6; rw [List.nil_append] at hown6; obtain ⟨A6, c6, hv6⟩ := hown6.len_shape; rw [HLx.out.1] at hv6; subst hv6; have hcx : Calm wx w6 := hown6.calm)
                      | (refine step_append_ps rfl (.tmp 49) (.tmp 51) rfl wx (.slice A6 hn c6) lx ly (by simp [Act.eval, Act.put]) hown6 gHA gm ghc (by simp [Act.eval, Act.put]) HLy.out.1 (HLy.out.2.2.read.calm hcx) (by rw [HLx.out.1]; omega) ?_; intro v8 w8 hown8 hgr8; obtain ⟨A8, c8, hv8⟩ := hown8.len_shape; rw [List.length_append, HLx.out.1, HLy.out.1] at hv8; subst hv8; have hcy : Calm wx w8 := hown8.calm)
                      | (go_at_call 60; refine (KP1.out _ _ _ _ (HCb.out.trans (HCx.out.trans hcy)) (HNw.out _ hcy).1 (HNw.out _ hcy).2 (HPs.out _ _ _ _ hcy hown8)).mono ?_; rintro e w9 ⟨⟨v9, zs9, rfl, hcol⟩, hf8⟩))
                  all_goals
                    go_wp2_with fail
                    go_meet
                    case rel => exact ⟨zs9, rfl, hcol⟩
                case rest =>
                  obtain ⟨zs2, rfl, HCol2⟩ := hcut
                  go_wp2_with fail
                  go_roundw
                  case rel => exact ⟨k + 1, out ++ oo.toList, zs2, by omega, by go_num, HT2.out, HCol2.out⟩
                  case measure => simp [intOf]; omega
        · obtain rfl : k = n := by omega
          have HFin : Hid (resE es g = (out, 0)) := HV.out.1 out (HT.out.all (by rw [HN.out]; exact Nat.le_refl _))
          obtain ⟨A9, c9, rfl, r1, r2, r3⟩ := HCr.out.reads
          have HR := Lib.hid (And.intro r1 (And.intro r2 r3))
          obtain ⟨L9, hL9⟩ : ∃ L9, out.length = L9 := ⟨_, rfl⟩
          have HL9 := Lib.hid hL9
          rw [hL9]
          clear r1 r2 r3 hL9
          go_wp2_with fail
          go_ret2
          exact ⟨by rw [HFin.out]; exact ⟨A9, c9, by rw [HL9.out]; rfl, HR.out.1, HR.out.2⟩, HC.out.trans HCq.out⟩
    · have HV := HV1' h1
      have hb : (ge != 0) = true := by simpa using h1
      clear HV1' HV2' h1
      go_wp2_with fail
      refine (KG.out w2 HC12.out).mono ?_
      rintro e w3 ⟨rfl, hc3⟩
      have HC3 : Hid (Calm w w3) := HC.out.trans (HC12.out.trans hc3)
      clear q0 q1 q2 hc3
      go_wp2_with fail
      go_ret2
      exact ⟨by rw [HV.out]; exact entOutR_err _ _, HC3.out⟩
  · have HV := HV0 h0
    have hb : (er != 0) = true := by simpa using h0
    clear HV0 HV1 HV2 h0
    go_wp2_with fail
    rw [← HW.out]
    refine HKC.out.mono ?_
    rintro e w2 ⟨rfl, hc2⟩
    have HC2 : Hid (Calm w w2) := HC.out.trans hc2
    clear q0 q1 q2 hc2
    go_wp2_with fail
    go_ret2
    exact ⟨by rw [HV.out]; exact entOutR_err _ _, HC2.out⟩
end Go.Proofs.YtmfjppaeddbdaaaGreatDoor
set_option linter.unusedVariables false
set_option linter.unusedSimpArgs false
namespace Go.Proofs.YtmfjppaeddbdaaaGreatDoor
open Go Go.ChangeShapes Go.WideShapes Go.RowKit Go.Deep Sy
section
variable {H : Type} {enc : TypeId × Value → H} {w : World}
theorem c_regX : Tryz.prog.cellsOf 43 = 3 := by kernel_rfl
set_option maxRecDepth 20000 in
theorem open_regX {v : Value} {b0 : Nat} {d : DataW H} {p : List MemPlace} (hv : Value.okWide Tryz.prog w .any b0 43 v) (h : DataW.Trod enc Tryz.prog w 0 (fun _ => true) true 43 v d p) (hb : Rows.uptoBulk d ≤ 1048576) :
    ∃ (g : Reg) (A : Option Addr) (c : Nat) (HA : Option Addr) (hc : Nat), v = .agg #[.slice A g.b.parts.length c, .bool g.b.rest, .slice HA g.hs.length hc] ∧ RegX w A c HA hc g := by
  obtain ⟨cs, rfl, hsz⟩ := okWide_struct Tryz.underlying43 hv
  rw [c_regX] at hsz
  obtain ⟨l⟩ := cs
  obtain ⟨fuel, hf⟩ := h
  obtain ⟨y0, y1, n, e, hlen, h0, h1⟩ := trod_struct2 Tryz.underlying43 hf
  obtain ⟨rfl, rfl⟩ : d = .agg [y0.1, y1.1] ∧ p = y0.2 ++ y1.2 := by simpa using e
  match l, hsz with
  | [c0, c1, c2], _ =>
    have e0 : DataW.trod enc Tryz.prog w 0 (fun _ => true) true n 40 [c0, c1] = some y0 := by simpa [c_pat, Value.cells] using h0
    have e1 : DataW.trod enc Tryz.prog w 0 (fun _ => true) true n 41 [c2] = some y1 := by simpa [c_pat, c_patsE, Value.cells] using h1
    obtain ⟨p1, A1, k1, g1, g2, g3, g4⟩ := open_patU e0 (Nat.le_trans (bulks.agg_part (by simp)) hb)
    obtain ⟨A3, ps, k3, l1, l2, l3, l4⟩ := open_patsU e1 (Nat.le_trans (bulks.agg_part (by simp)) hb)
    simp only [List.cons.injEq, and_true] at g1 l1
    obtain ⟨rfl, rfl⟩ := g1
    subst l1
    exact ⟨⟨p1, ps⟩, A1, k1, A3, k3, rfl, ⟨g4, g2, by omega, l4, l2, by omega⟩⟩
end
end Go.Proofs.YtmfjppaeddbdaaaGreatDoor
set_option linter.unusedVariables false
set_option linter.unusedSimpArgs false
namespace Go.Proofs.YtmfjppaeddbdaaaGreatDoor
open Go Go.RowKit Sy

theorem resE_len (es : List Ent) (g : Reg) : (resE es g).1.length ≤ es.length := by
  unfold resE
  split
  · exact Nat.zero_le _
  · split
    · exact Nat.zero_le _
    · split
      · exact Nat.zero_le _
      · rename_i h
        have := (resL_mem h).2
        show _ ≤ _
        rw [this]
        exact List.length_filterMap_le _ _
theorem smallX_of {g : Reg} (h : SizeE 60 ⟨g.b, g.b, g.hs⟩) : SmallX g := ⟨fun s hs => Nat.le_trans (h.ls s hs) (by decide), fun p hp s hs => Nat.le_trans ((h.h p hp).2 s hs) (by decide)⟩
set_option maxHeartbeats 4000000 in
theorem mappingRestricts_c (es : List Ent) (g : Reg) (n c : Nat) (A : Option Addr) (gA : Option Addr) (gc : Nat) (gHA : Option Addr) (ghc gn gm : Nat) (gr : Bool) (w : World) (h : EntsA w A es) (hcn : n ≤ c) (hcc : c ≤ 9223372036854775807) (hn : es.length = n) (hx : RegX w gA gc gHA ghc g) (hgn : g.b.parts.length = gn) (hgm : g.hs.length = gm) (hgr : g.b.rest = gr) (hM : MaxL w) :
    Calls Tryz.prog 7 #[.slice A n c, .agg #[.slice gA gn gc, .bool gr, .slice gHA gm ghc]] w fun e w' => e = .returned (.bool true) ∧ Calm w w' := by
  have hl : n ≤ 1048576 := by rw [← hn]; exact h.1
  obtain ⟨w1, hw1⟩ : ∃ w1, w1 = w.alloc (.cells #[.slice gA gn gc, .bool gr, .slice gHA gm ghc] 43) := ⟨_, rfl⟩
  obtain ⟨B, hB⟩ : ∃ B, w.heap.size = B := ⟨_, rfl⟩
  have hc1 : Calm w w1 := by
    show Below _ _ _
    rw [hw1]
    exact (Calm.refl w).alloc _
  have hg1 : RgB w1 B (.slice gA gn gc) (.bool gr) (.slice gHA gm ghc) := by rw [hw1, ← hB]; exact RgB.new w _ _ _
  have KS := Lib.hid (smallK es n c A w1 (h.calm hc1) hcn hcc hn)
  have KA : Hid (∀ W, Calm w W → Calls Tryz.prog 11 #[] W fun e w' => e = .returned (.bool true) ∧ Calm W w') := fun W hW => awakeM_c W (hM.calm hW)
  have KT : Hid (∀ W, Calm w W → Calls Tryz.prog 24 #[.agg #[.slice gA gn gc, .bool gr, .slice gHA gm ghc]] W fun e w' => (∃ b, e = .returned (.bool b) ∧ (b = true → SmallX g)) ∧ Calm W w') := fun W hW =>
    (tiny_c g gA gc gHA ghc gn gm gr W (hx.calm hW) hgn hgm hgr).mono fun e w' ⟨⟨b, h1, h2⟩, h3⟩ => ⟨⟨b, h1, fun hb => smallX_of (h2 hb)⟩, h3⟩
  obtain ⟨re, hre⟩ : ∃ re, (resE es g).1 = re := ⟨_, rfl⟩
  obtain ⟨rx, hrx⟩ : ∃ rx, (resE es g).2 = rx := ⟨_, rfl⟩
  obtain ⟨rl, hrl⟩ : ∃ rl, re.length = rl := ⟨_, rfl⟩
  have hrll : rl ≤ 1048576 := by
    have := resE_len es g
    rw [hre, hrl, hn] at this
    omega
  have KI : Hid ((∀ x ∈ es, SizeE 60 x) → SmallX g → ∀ W, Calm w W → Calls Tryz.prog 25 #[.slice A n c, .agg #[.slice gA gn gc, .bool gr, .slice gHA gm ghc]] W fun e w' => (∃ A2 c2, e = .returned (.tuple #[.slice A2 rl c2, .int .i64 rx]) ∧ EntsR w' A2 re) ∧ Calm W w') := fun hs hsx W hW =>
    (mres_c es g n c A gA gHA gn gc gm ghc gr W (h.calm hW) hcn hcc hn (fun x hx => (hs x hx).mono (by decide)) (hx.calm hW) hsx hgn hgm hgr).mono fun e w' ⟨h1, h2⟩ => by
      obtain ⟨A2, c2, h3, _, _, h4⟩ := h1.r
      rw [hre, hrx, hrl] at h3
      rw [hre] at h4
      exact ⟨⟨A2, c2, h3, h4⟩, h2⟩
  have KJ : Hid ((∀ x ∈ es, SizeE 60 x) → SmallX g → ∀ W, Calm w W → Calls Tryz.prog 26 #[.slice A n c, .agg #[.slice gA gn gc, .bool gr, .slice gHA gm ghc]] W fun e w' => (∃ A2 c2, e = .returned (.tuple #[.slice A2 rl c2, .int .i64 rx]) ∧ EntsR w' A2 re) ∧ Calm W w') := fun hs hsx W hW =>
    (rres_c es g n c A gA gHA gn gc gm ghc gr W (h.calm hW) hcn hcc hn (fun x hx => (hs x hx).mono (by decide)) (hx.calm hW) hsx hgn hgm hgr).mono fun e w' ⟨h1, h2⟩ => by
      obtain ⟨A2, c2, h3, _, _, h4⟩ := h1
      rw [hre, hrx, hrl] at h3
      rw [hre] at h4
      exact ⟨⟨A2, c2, h3, h4⟩, h2⟩
  have KE : Hid (∀ W A2 c2 A3 c3, EntsR W A2 re → EntsR W A3 re → Calls Tryz.prog 16 #[.slice A2 rl c2, .slice A3 rl c3] W fun e w' => e = .returned (.bool true) ∧ Calm W w') := fun W A2 c2 A3 c3 h1 h2 =>
    sameE_c re rl c2 c3 A2 A3 W h1 h2 hrl (by omega)
  have HW := Lib.hid hw1
  have HC := Lib.hid hc1
  have HG := Lib.hid hg1
  have HBs := Lib.hid hB
  have c0 := hg1.c0
  have c1 := hg1.c1
  have c2 := hg1.c2
  clear h hn hM hre hrx hrl hx hgn hgm hgr hw1 hc1 hg1 hB
  go_enter Tryz.func7, Tryz.ntmps7
  go_wp2_with fail
  rw [← HW.out, HBs.out]
  refine KS.out.mono ?_
  rintro e w2 ⟨⟨b, rfl, hb⟩, hc2⟩
  have HS := Lib.hid hb
  have HG2 := Lib.hid (HG.out.calm hc2)
  have HC2 : Hid (Calm w w2) := HC.out.trans hc2
  clear hb hc2 c0 c1 c2
  have c0 := HG2.out.c0
  have c1 := HG2.out.c1
  have c2 := HG2.out.c2
  cases b with
  | false =>
    go_wp2_with fail
    refine (KA.out w2 HC2.out).mono ?_
    rintro e w3 ⟨rfl, hc3⟩
    go_wp2_with fail
    go_ret
    exact ⟨rfl, HC2.out.trans hc3⟩
  | true =>
    have HS1 := Lib.hid (HS.out rfl)
    go_wp2_with fail
    refine (KT.out w2 HC2.out).mono ?_
    rintro e w3 ⟨⟨b3, rfl, hb3⟩, hc3⟩
    have HT := Lib.hid hb3
    have HG3 := Lib.hid (HG2.out.calm hc3)
    have HC3 : Hid (Calm w w3) := HC2.out.trans hc3
    clear hb3 hc3 c0 c1 c2
    have c0 := HG3.out.c0
    have c1 := HG3.out.c1
    have c2 := HG3.out.c2
    cases b3 with
    | false =>
      go_wp2_with fail
      refine (KA.out w3 HC3.out).mono ?_
      rintro e w4 ⟨rfl, hc4⟩
      go_wp2_with fail
      go_ret
      exact ⟨rfl, HC3.out.trans hc4⟩
    | true =>
      have HT1 := Lib.hid (HT.out rfl)
      by_cases h70 : 70 < gm
      · have h70i : (70 : Int) < (gm : Int) := by omega
        go_wp2_with fail
        refine (KA.out w3 HC3.out).mono ?_
        rintro e w4 ⟨rfl, hc4⟩
        go_wp2_with fail
        go_ret
        exact ⟨rfl, HC3.out.trans hc4⟩
      · have h70i : ¬ (70 : Int) < (gm : Int) := by omega
        go_wp2_with fail
        refine (KI.out HS1.out HT1.out w3 HC3.out).mono ?_
        rintro e w4 ⟨⟨A4, k4, rfl, hE4⟩, hc4⟩
        have HG4 := Lib.hid (HG3.out.calm hc4)
        have HC4 : Hid (Calm w w4) := HC3.out.trans hc4
        have HE4 := Lib.hid hE4
        clear hc4 hE4 c0 c1 c2
        have c0 := HG4.out.c0
        have c1 := HG4.out.c1
        have c2 := HG4.out.c2
        go_wp2_with fail
        refine (KJ.out HS1.out HT1.out w4 HC4.out).mono ?_
        rintro e w5 ⟨⟨A5, k5, rfl, hE5⟩, hc5⟩
        have HC5 : Hid (Calm w w5) := HC4.out.trans hc5
        have HE5 := Lib.hid hE5
        have HE45 := Lib.hid (HE4.out.calm hc5)
        clear hc5 hE5 c0 c1 c2
        go_wp2_with fail
        refine (KE.out w5 A4 k4 A5 k5 HE45.out HE5.out).mono ?_
        rintro e w6 ⟨rfl, hc6⟩
        have HC6 : Hid (Calm w w6) := HC5.out.trans hc6
        clear hc6
        go_wp2_with fail
        refine (KA.out w6 HC6.out).mono ?_
        rintro e w7 ⟨rfl, hc7⟩
        go_wp2_with fail
        go_ret
        exact ⟨rfl, HC6.out.trans hc7⟩
theorem res_ok {es : List Ent} {g : Reg} (h : (resE es g).2 = 0) : Mapping es ∧ gErr g = 0 ∧ resL g es = some (resE es g).1 := by
  unfold resE at h ⊢
  by_cases h0 : (mapE es).2 ≠ 0
  · rw [if_pos h0] at h
    exact absurd h h0
  · rw [if_neg h0] at h ⊢
    by_cases h1 : gErr g ≠ 0
    · rw [if_pos h1] at h
      cases h
    · rw [if_neg h1] at h ⊢
      rcases hr : resL g es with _ | l
      · rw [hr] at h
        cases h
      · exact ⟨(mapE_zero (by simpa using h0)).1, by simpa using h1, rfl⟩
theorem res_err {es : List Ent} {g : Reg} (h : (resE es g).2 = 0) : (mapE (resE es g).1).2 = 0 ∨ (mapE (resE es g).1).2 = 72 := by
  obtain ⟨h1, h2, h3⟩ := res_ok h
  exact res_map h1 h2 h3
theorem res_fwd {es : List Ent} {g : Reg} (h : (resE es g).2 = 0) (hz : (mapE (resE es g).1).2 = 0) (s : Str) : mfS (resE es g).1 s = if hasS g.b g.hs s then mfS es s else none := by
  obtain ⟨h1, h2, h3⟩ := res_ok h
  unfold mfS
  rw [if_pos hz, if_pos (mapping_zero h1)]
  rcases hp : pathOf s with _ | l
  · rw [hasS_nopath hp]
    unfold fwdM
    rw [hp]
    rfl
  · rw [res_mean h1 h2 h3 (mapE_zero hz).1 hp, hasS_path (x := ⟨g.b, g.b, g.hs⟩) h2 hp]
    rfl
theorem res_size {es : List Ent} {g : Reg} (h : ∀ x ∈ es, SizeE 60 x) (hg : SizeE 60 ⟨g.b, g.b, g.hs⟩) (hz : (resE es g).2 = 0) : ∀ x ∈ (resE es g).1, SmallE x := fun y hy => by
  obtain ⟨h1, h2, h3⟩ := res_ok hz
  have h4 : (resE es g).1 = es.filterMap (resOf g) := (resL_mem h3).2
  rw [h4] at hy
  obtain ⟨x, hx, hi⟩ := List.mem_filterMap.1 hy
  obtain ⟨_, _, _, r, hr, rfl⟩ := resOf_mem (h1.good x hx) h2 hi
  have ht := ruleErr_twin.1 (narL_good hr)
  have hl := (patErr_iff.1 ht.lp).2.2.1
  have hrp := (patErr_iff.1 ht.rp).2.2.1
  have hs := h x hx
  have hb := narL_left hr (L := 60) (by decide) hs.ls hg.ls
  refine ⟨by show r.left.parts.length ≤ _; omega, fun s hs' => by have := hb s hs'; omega, by show r.right.parts.length ≤ _; omega, fun s hs' => by have := narL_each hr (L := 60) (by decide) hs.ls hs.rs hg.ls s hs'; omega, fun p hp => ⟨?_, fun s hs' => ?_⟩⟩
  · have := (patErr_iff.1 (redL_good p hp)).2.2.1
    omega
  · have := red_size (L := 60) (by decide) hb (fun q hq => by
      rcases List.mem_append.1 hq with hq | hq
      · exact (hs.h q hq).2
      · exact (hg.h q hq).2) p hp s hs'
    omega
set_option maxHeartbeats 4000000 in
theorem mappingRestrictMeans_c (es : List Ent) (g : Reg) (s : Str) (n c : Nat) (A : Option Addr) (gA : Option Addr) (gc : Nat) (gHA : Option Addr) (ghc gn gm : Nat) (gr : Bool) (w : World) (h : EntsA w A es) (hcn : n ≤ c) (hcc : c ≤ 9223372036854775807) (hn : es.length = n) (hx : RegX w gA gc gHA ghc g) (hgn : g.b.parts.length = gn) (hgm : g.hs.length = gm) (hgr : g.b.rest = gr) (hsl : s.length ≤ 1048576) (hM : MaxL w) :
    Calls Tryz.prog 9 #[.slice A n c, .agg #[.slice gA gn gc, .bool gr, .slice gHA gm ghc], .string (bs s)] w fun e w' => e = .returned (.bool true) ∧ Calm w w' := by
  have hl : n ≤ 1048576 := by rw [← hn]; exact h.1
  obtain ⟨w1, hw1⟩ : ∃ w1, w1 = w.alloc (.cells #[.slice gA gn gc, .bool gr, .slice gHA gm ghc] 43) := ⟨_, rfl⟩
  obtain ⟨B, hB⟩ : ∃ B, w.heap.size = B := ⟨_, rfl⟩
  have hc1 : Calm w w1 := by
    show Below _ _ _
    rw [hw1]
    exact (Calm.refl w).alloc _
  have hg1 : RgB w1 B (.slice gA gn gc) (.bool gr) (.slice gHA gm ghc) := by rw [hw1, ← hB]; exact RgB.new w _ _ _
  have KS := Lib.hid (smallK es n c A w1 (h.calm hc1) hcn hcc hn)
  have KA : Hid (∀ W, Calm w W → Calls Tryz.prog 11 #[] W fun e w' => e = .returned (.bool true) ∧ Calm W w') := fun W hW => awakeM_c W (hM.calm hW)
  have KT : Hid (∀ W, Calm w W → Calls Tryz.prog 24 #[.agg #[.slice gA gn gc, .bool gr, .slice gHA gm ghc]] W fun e w' => (∃ b, e = .returned (.bool b) ∧ (b = true → SizeE 60 ⟨g.b, g.b, g.hs⟩)) ∧ Calm W w') := fun W hW =>
    (tiny_c g gA gc gHA ghc gn gm gr W (hx.calm hW) hgn hgm hgr).mono fun e w' ⟨⟨b, h1, h2⟩, h3⟩ => ⟨⟨b, h1, h2⟩, h3⟩
  obtain ⟨re, hre⟩ : ∃ re, (resE es g).1 = re := ⟨_, rfl⟩
  obtain ⟨rx, hrx⟩ : ∃ rx, (resE es g).2 = rx := ⟨_, rfl⟩
  obtain ⟨rl, hrl⟩ : ∃ rl, re.length = rl := ⟨_, rfl⟩
  obtain ⟨ft, hft⟩ : ∃ ft, bs ((mfS es s).getD []) = ft := ⟨_, rfl⟩
  obtain ⟨fo, hfo⟩ : ∃ fo, (mfS es s).isSome = fo := ⟨_, rfl⟩
  obtain ⟨v, hv⟩ : ∃ v, hasS g.b g.hs s = v := ⟨_, rfl⟩
  obtain ⟨ci, hci⟩ : ∃ ci, (mapE re).1 = ci := ⟨_, rfl⟩
  obtain ⟨ce, hce⟩ : ∃ ce, (mapE re).2 = ce := ⟨_, rfl⟩
  have hrll : rl ≤ 1048576 := by
    have := resE_len es g
    rw [hre, hrl, hn] at this
    omega
  have HE : rx = 0 → Hid (ce = 0 ∨ ce = 72) := fun h0 => by
    show ce = 0 ∨ ce = 72
    have := res_err (hrx.trans h0)
    rw [hre, hce] at this
    exact this
  have KI : Hid ((∀ x ∈ es, SizeE 60 x) → SmallX g → ∀ W, Calm w W → Calls Tryz.prog 25 #[.slice A n c, .agg #[.slice gA gn gc, .bool gr, .slice gHA gm ghc]] W fun e w' => (∃ A2 c2, e = .returned (.tuple #[.slice A2 rl c2, .int .i64 rx]) ∧ EntsA w' A2 re ∧ rl ≤ c2 ∧ c2 ≤ 9223372036854775807) ∧ Calm W w') := fun hs hsx W hW =>
    (mres_c es g n c A gA gHA gn gc gm ghc gr W (h.calm hW) hcn hcc hn (fun x hx => (hs x hx).mono (by decide)) (hx.calm hW) hsx hgn hgm hgr).mono fun e w' ⟨h1, h2⟩ => by
      obtain ⟨A2, c2, h3, h5, h6, zs, h7, h8, h9⟩ := h1
      rw [hre, hrx, hrl] at h3
      rw [hre] at h5 h7
      rw [hrl] at h5
      exact ⟨⟨A2, c2, h3, entsA_of h7 h8 h9 (by rw [hrl]; exact hrll), h5, h6⟩, h2⟩
  have KC : rx = 0 → Hid ((∀ x ∈ es, SizeE 60 x) → SizeE 60 ⟨g.b, g.b, g.hs⟩ → ∀ W A2 c2, Calm w W → EntsA W A2 re → rl ≤ c2 → c2 ≤ 9223372036854775807 → Calls Tryz.prog 12 #[.slice A2 rl c2] W fun e w' => e = .returned (.tuple #[.int .i64 (ci : Nat), .int .i64 ce]) ∧ Calm W w') := fun h0 hs hsx W A2 c2 hW h1 h2 h4 => by
    have := check_c re rl c2 A2 W h1 h2 h4 (by rw [← hre]; exact res_size hs hsx (hrx.trans h0)) hrl
    rw [hci, hce] at this
    exact this
  have KF : Hid ((∀ x ∈ es, SizeE 60 x) → s.length ≤ 300 → ∀ W, Calm w W → Calls Tryz.prog 21 #[.slice A n c, .string (bs s)] W fun e w' => e = .returned (.tuple #[.string ft, .bool fo]) ∧ Calm W w') := fun hs h3 W hW => by
    have := mfwd_c es s n c A W (h.calm hW) hcn hcc hn (fun x hx => (hs x hx).mono (by decide)) (by omega) (hM.calm hW)
    rw [mfV_eq, optV, hft, hfo] at this
    exact this
  have KH : rx = 0 → Hid (SmallX g → s.length ≤ 300 → ∀ W, Calm w W → Calls Tryz.prog 28 #[.agg #[.slice gA gn gc, .bool gr, .slice gHA gm ghc], .string (bs s)] W fun e w' => e = .returned (.bool v) ∧ Calm W w') := fun h0 hsx h3 W hW => by
    have hge := (res_ok (hrx.trans h0)).2.1
    have hxW := hx.calm hW
    exact has_g ⟨g.b, g.b, g.hs⟩ s v gA gn gc gHA gm ghc gr W (by omega) (hxW.pat hsx hge).r hxW.room hxW.cap (hxW.pats hsx hge) (hM.calm hW) hge hv hgn hgm hgr
  have KFT : rx = 0 → ce = 0 → v = true → Hid ((∀ x ∈ es, SizeE 60 x) → SizeE 60 ⟨g.b, g.b, g.hs⟩ → s.length ≤ 300 → ∀ W A2 c2, Calm w W → EntsA W A2 re → rl ≤ c2 → c2 ≤ 9223372036854775807 → Calls Tryz.prog 21 #[.slice A2 rl c2, .string (bs s)] W fun e w' => e = .returned (.tuple #[.string ft, .bool fo]) ∧ Calm W w') := fun h0 hz hv1 hs hsx h3 W A2 c2 hW h1 h2 h4 => by
    have := mfwd_c re s rl c2 A2 W h1 h2 h4 hrl (by rw [← hre]; exact res_size hs hsx (hrx.trans h0)) (by omega) (hM.calm hW)
    rw [mfV_eq, ← hre, res_fwd (hrx.trans h0) (by rw [hre, hce]; exact hz), hv, hv1, if_pos rfl, optV, hft, hfo] at this
    exact this
  have KFF : rx = 0 → ce = 0 → v = false → Hid ((∀ x ∈ es, SizeE 60 x) → SizeE 60 ⟨g.b, g.b, g.hs⟩ → s.length ≤ 300 → ∀ W A2 c2, Calm w W → EntsA W A2 re → rl ≤ c2 → c2 ≤ 9223372036854775807 → Calls Tryz.prog 21 #[.slice A2 rl c2, .string (bs s)] W fun e w' => e = .returned (.tuple #[.string ⟨#[]⟩, .bool false]) ∧ Calm W w') := fun h0 hz hv1 hs hsx h3 W A2 c2 hW h1 h2 h4 => by
    have := mfwd_c re s rl c2 A2 W h1 h2 h4 hrl (by rw [← hre]; exact res_size hs hsx (hrx.trans h0)) (by omega) (hM.calm hW)
    rw [mfV_eq, ← hre, res_fwd (hrx.trans h0) (by rw [hre, hce]; exact hz), hv, hv1, if_neg Bool.false_ne_true] at this
    exact this
  have hsz : (bs s).size = s.length := by simp [bs, ByteArray.size]
  have HW := Lib.hid hw1
  have HC := Lib.hid hc1
  have HG := Lib.hid hg1
  have HBs := Lib.hid hB
  have c0 := hg1.c0
  have c1 := hg1.c1
  have c2 := hg1.c2
  clear h hn hM hre hrx hrl hx hgn hgm hgr hw1 hc1 hg1 hB hft hfo hv hci hce
  go_enter Tryz.func9, Tryz.ntmps9
  go_wp2_with fail
  rw [← HW.out, HBs.out]
  refine KS.out.mono ?_
  rintro e w2 ⟨⟨b, rfl, hb⟩, hc2⟩
  have HS := Lib.hid hb
  have HG2 := Lib.hid (HG.out.calm hc2)
  have HC2 : Hid (Calm w w2) := HC.out.trans hc2
  clear hb hc2 c0 c1 c2
  have c0 := HG2.out.c0
  have c1 := HG2.out.c1
  have c2 := HG2.out.c2
  cases b with
  | false =>
    go_wp2_with fail
    refine (KA.out w2 HC2.out).mono ?_
    rintro e w3 ⟨rfl, hc3⟩
    go_wp2_with fail
    go_ret
    exact ⟨rfl, HC2.out.trans hc3⟩
  | true =>
    have HS1 := Lib.hid (HS.out rfl)
    go_wp2_with fail
    refine (KT.out w2 HC2.out).mono ?_
    rintro e w3 ⟨⟨b3, rfl, hb3⟩, hc3⟩
    have HT := Lib.hid hb3
    have HG3 := Lib.hid (HG2.out.calm hc3)
    have HC3 : Hid (Calm w w3) := HC2.out.trans hc3
    clear hb3 hc3 c0 c1 c2
    have c0 := HG3.out.c0
    have c1 := HG3.out.c1
    have c2 := HG3.out.c2
    cases b3 with
    | false =>
      go_wp2_with fail
      refine (KA.out w3 HC3.out).mono ?_
      rintro e w4 ⟨rfl, hc4⟩
      go_wp2_with fail
      go_ret
      exact ⟨rfl, HC3.out.trans hc4⟩
    | true =>
      have HT1 := Lib.hid (HT.out rfl)
      by_cases h3 : s.length ≤ 300
      · go_wp2_with fail
        refine (KI.out HS1.out (smallX_of HT1.out) w3 HC3.out).mono ?_
        rintro e w4 ⟨⟨A4, k4, rfl, hE4, hl4, hk4⟩, hc4⟩
        have HG4 := Lib.hid (HG3.out.calm hc4)
        have HC4 : Hid (Calm w w4) := HC3.out.trans hc4
        have HE4 := Lib.hid hE4
        clear hc4 hE4 c0 c1 c2
        by_cases h0 : rx = 0
        · subst h0
          have KC1 := KC rfl
          have KH1 := KH rfl
          have KT1 := KFT rfl
          have KF1 := KFF rfl
          have HE1 := HE rfl
          clear KC KH KFT KFF HE
          go_wp2_with fail
          refine (KC1.out HS1.out HT1.out w4 A4 k4 HC4.out HE4.out hl4 hk4).mono ?_
          rintro e w5 ⟨rfl, hc5⟩
          have HG5 := Lib.hid (HG4.out.calm hc5)
          have HC5 : Hid (Calm w w5) := HC4.out.trans hc5
          have HE5 := Lib.hid (HE4.out.calm hc5)
          clear hc5
          by_cases hz : ce = 0
          · subst hz
            have KT2 := KT1 rfl
            have KF2 := KF1 rfl
            clear KT1 KF1 HE1
            go_wp2_with fail
            refine (KF.out HS1.out h3 w5 HC5.out).mono ?_
            rintro e w6 ⟨rfl, hc6⟩
            have HG6 := Lib.hid (HG5.out.calm hc6)
            have HC6 : Hid (Calm w w6) := HC5.out.trans hc6
            have HE6 := Lib.hid (HE5.out.calm hc6)
            clear hc6
            have c0 := HG6.out.c0
            have c1 := HG6.out.c1
            have c2 := HG6.out.c2
            go_wp2_with fail
            refine (KH1.out (smallX_of HT1.out) h3 w6 HC6.out).mono ?_
            rintro e w7 ⟨rfl, hc7⟩
            have HC7 : Hid (Calm w w7) := HC6.out.trans hc7
            have HE7 := Lib.hid (HE6.out.calm hc7)
            clear hc7 c0 c1 c2
            cases v with
            | true =>
              have KT3 := KT2 rfl
              clear KT2 KF2
              go_wp2_with fail
              refine (KT3.out HS1.out HT1.out h3 w7 A4 k4 HC7.out HE7.out hl4 hk4).mono ?_
              rintro e w8 ⟨rfl, hc8⟩
              have HC8 : Hid (Calm w w8) := HC7.out.trans hc8
              clear hc8
              go_wp2_with fail
              refine (KA.out w8 HC8.out).mono ?_
              rintro e w9 ⟨rfl, hc9⟩
              go_wp2_with fail
              go_ret
              exact ⟨rfl, HC8.out.trans hc9⟩
            | false =>
              have KF3 := KF2 rfl
              clear KT2 KF2
              go_wp2_with fail
              refine (KF3.out HS1.out HT1.out h3 w7 A4 k4 HC7.out HE7.out hl4 hk4).mono ?_
              rintro e w8 ⟨rfl, hc8⟩
              have HC8 : Hid (Calm w w8) := HC7.out.trans hc8
              clear hc8
              go_wp2_with fail
              refine (KA.out w8 HC8.out).mono ?_
              rintro e w9 ⟨rfl, hc9⟩
              go_wp2_with fail
              go_ret
              exact ⟨rfl, HC8.out.trans hc9⟩
          · obtain rfl : ce = 72 := by
              rcases HE1.out with h | h
              · exact absurd h hz
              · exact h
            clear KT1 KF1 HE1 hz
            go_wp2_with fail
            refine (KA.out w5 HC5.out).mono ?_
            rintro e w6 ⟨rfl, hc6⟩
            go_wp2_with fail
            go_ret
            exact ⟨rfl, HC5.out.trans hc6⟩
        · have hb : (rx != 0) = true := by simpa using h0
          clear KC KH KFT KFF HE h0
          go_wp2_with fail
          refine (KA.out w4 HC4.out).mono ?_
          rintro e w5 ⟨rfl, hc5⟩
          go_wp2_with fail
          go_ret
          exact ⟨rfl, HC4.out.trans hc5⟩
      · go_wp2_with fail
        refine (KA.out w3 HC3.out).mono ?_
        rintro e w4 ⟨rfl, hc4⟩
        go_wp2_with fail
        go_ret
        exact ⟨rfl, HC3.out.trans hc4⟩
end Go.Proofs.YtmfjppaeddbdaaaGreatDoor
