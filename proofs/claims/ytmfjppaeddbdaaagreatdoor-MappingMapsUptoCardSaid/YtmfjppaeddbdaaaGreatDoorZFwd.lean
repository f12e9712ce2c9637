/- Walks: the reference's Fill (written by program: gen_rfill.py). -/
import Derived.Test.YtmfjppaeddbdaaaGreatDoorZCopyP
import Derived.Test.YtmfjppaeddbdaaaGreatDoorZFill
import Derived.Test.YtmfjppaeddbdaaaGreatDoorZFwdP
set_option linter.unusedVariables false
set_option linter.unusedSimpArgs false
namespace Go.Proofs.YtmfjppaeddbdaaaGreatDoor
open Go Go.RowKit Sy
theorem run_append_blk {w : World} {base n c b off : Nat} {v : Value} {xs : List Value} {l : Str} (ty : TypeId) (hown : w.ownsRow base 9 1 v n xs) (hcell : w.cell? ⟨b, off, none⟩ = some (.string (bs l))) (hlen : n ≤ 1000000) (hbase : base ≤ w.heap.size) :
    ∃ v' w', (Builtin.append_ #[38, 38] ty #[v, .slice (some ⟨b, off, none⟩) 1 c]).run Tryz.prog w = .ok v' w' ∧ w'.ownsRow base 9 1 v' (n + 1) (xs ++ [.string (bs l)]) ∧ w.grownBy w' v.ownBlock ∧
      (∀ k, v'.ownBlock = some k → v.ownBlock = some k ∨ k = w.heap.size) := by
  obtain ⟨i0, hi0, hz0, hz1, hz2⟩ := info_parts info_strE
  have hnews : ∀ (j : Nat) (u : Value), [Value.string (bs l)][j]? = some u → w.cell? ((⟨b, off, none⟩ : Addr).add j) = some u := fun j u hj => by
    cases j with
    | zero =>
      simp only [List.getElem?_cons_zero, Option.some.injEq] at hj
      subst hj
      simpa [Addr.add_lit] using hcell
    | succ j => simp at hj
  have h1 : ∀ u ∈ [Value.string (bs l)], u.oneCell' = true := by simp [Value.oneCell']
  have hby : (n + 1) * i0.bytes ≤ 140737488355328 := by rw [hz2]; omega
  obtain ⟨v', w', hr, h2, h3, _⟩ := run_append_own (P := Tryz.prog) w base 38 ty 9 i0 _ 1 16 Tryz.underlying38 hi0 hz0 hz1 hz2 rfl (by decide) v n xs hown ⟨b, off, none⟩ 1 c [.string (bs l)] rfl hnews h1 (by unfold maxLen; omega) (by omega) hbase
  refine ⟨v', w', hr, h2, h3, ?_⟩
  rcases hown.2 with ⟨rfl, rfl⟩ | ⟨g, cap, cur, rfl, hbg, hg, hnc, hcm, hcs, htake⟩
  · have hr2 := run_append_nil (P := Tryz.prog) w 38 ty 9 i0 _ Tryz.underlying38 hi0 hz0 ⟨b, off, none⟩ 1 c [.string (bs l)] (by rw [hz1]; rfl) hnews (by omega) (by omega) (by rw [hz2]; omega)
    rw [hr2] at hr
    injection hr with hr _
    subst hr
    intro k hk
    exact .inr (by simpa [Value.ownBlock, eq_comm] using hk)
  · by_cases hroom : n + 1 ≤ cap
    · have hr2 := run_append_room (P := Tryz.prog) w 38 ty 9 i0 Tryz.underlying38 hi0 g n cap cur hg ⟨b, off, none⟩ 1 c [.string (bs l)] (by rw [hz1]; rfl) hnews h1 hroom (by rw [hz1, hcs]; simp; omega)
      rw [hr2] at hr
      injection hr with hr _
      subst hr
      intro k hk
      exact .inl (by simpa [Value.ownBlock] using hk)
    · have holds : ∀ j u, xs[j]? = some u → w.cell? ((⟨g, 0, none⟩ : Addr).add j) = some u := hown.cells (g := g) rfl
      have hr2 := run_append_grow (P := Tryz.prog) w 38 ty 9 i0 _ Tryz.underlying38 hi0 hz0 ⟨g, 0, none⟩ n cap xs (by rw [hz1]; exact hown.1) holds ⟨b, off, none⟩ 1 c [.string (bs l)] (by rw [hz1]; rfl) hnews (by omega) (by omega) (growslice_fits (by omega) hby)
      rw [hr2] at hr
      injection hr with hr _
      subst hr
      intro k hk
      exact .inr (by simpa [Value.ownBlock, eq_comm] using hk)

theorem wpList_append_str2 {ops : Array Oper} {rest : List Oper} {o : Oper} {a : Act} {Q : Exit → Act → World → Prop} {w : World} (hgd : o.guard = none) (s x : Operand)
    (ho : o.op = .call { callee := .builtin .append, args := #[s, x], argTypes := #[38, 38] }) (w0 : World) (v : Value) (ls : List Str) (hs : a.eval s = v) (hown : OwnS w0 w v ls)
    (b off c : Nat) (hx : a.eval x = .slice (some ⟨b, off, none⟩) 1 c) (l : Str) (hcell : w.cell? ⟨b, off, none⟩ = some (.string (bs l))) (hlen : ls.length ≤ 1000000)
    (h : ∀ v' w', OwnS w0 w' v' (ls ++ [l]) → w.grownBy w' v.ownBlock → (∀ k, v'.ownBlock = some k → v.ownBlock = some k ∨ k = w.heap.size) → wpList Tryz.prog ops Q rest (a.put o.dst v') w') : wpList Tryz.prog ops Q (o :: rest) a w := by
  refine wpList_plain hgd fun _ hK => ?_
  obtain ⟨v', w', hr, h2, h3, h4⟩ := run_append_blk o.type hown.own hcell hlen hown.calm.size
  unfold Oper.wp execOp
  simp only [ho, resolve, invoke, builtin, Sem.run_bind, Sem.run_pure, Result.andThen_ok, List.map_toArray, List.map_cons, List.map_nil, hs, hx]
  rw [hr]
  exact hK _ _ (h v' w' ⟨Below.trans hown.calm (owns_below hown.own hown.calm.size h3), by rw [List.length_append]; simpa [strCells] using h2⟩ h3 h4)
theorem StrsR.grown {w w' : World} {A : Option Addr} {ls : List Str} {row : Option Nat} (h : StrsR w A ls) (hg : w.grownBy w' row) (hne : ∀ a, A = some a → row ≠ some a.block) : StrsR w' A ls := by
  refine ⟨h.len, h.each, fun h0 => ?_⟩
  obtain ⟨b, o, hA, hb, hk⟩ := h.at_ h0
  exact ⟨b, o, hA, Nat.lt_of_lt_of_le hb hg.size, fun k l hl => hg.cell (hk k l hl) (fun e => hne _ hA e.symm)⟩
theorem StrsG.grown {w w' : World} {A : Option Addr} {ls : List Str} {row : Option Nat} (h : StrsG w A ls) (hg : w.grownBy w' row) (hne : ∀ a, A = some a → row ≠ some a.block) : StrsG w' A ls := by
  refine ⟨h.len, h.each, fun h0 => ?_⟩
  obtain ⟨b, o, hA, hb, hk⟩ := h.at_ h0
  exact ⟨b, o, hA, Nat.lt_of_lt_of_le hb hg.size, fun k l hl => hg.cell (hk k l hl) (fun e => hne _ hA e.symm)⟩
end Go.Proofs.YtmfjppaeddbdaaaGreatDoor
set_option linter.unusedVariables false
set_option linter.unusedSimpArgs false
namespace Go.Proofs.YtmfjppaeddbdaaaGreatDoor
open Go Go.RowKit Sy
theorem rjoin_c (ls : List Str) (Bk c : Nat) (w : World) (hcells : ∀ (j : Nat) (l : Str), ls[j]? = some l → w.cell? ⟨Bk, j, none⟩ = some (.string (bs l))) (hB : Bk < w.heap.size) (hcap : ls.length ≤ c) (hl : ls.length ≤ 20000) (hK : ∀ l ∈ ls, l.length ≤ 20000) :
    Calls Tryz.prog 114 #[.slice (some ⟨Bk, 0, none⟩) ls.length c] w fun e w' => e = .returned (.string (bs (47 :: 47 :: Lib.join ls [47]))) ∧ Calm w w' := by
  have hj := join47_c ls Bk c w hcells hB hcap hl hK
  have hjl := join47_len hl hK
  have hv : Hid (bs (47 :: 47 :: Lib.join ls [47]) = ⟨#[47, 47]⟩ ++ bs (Lib.join ls [47])) := bs_append [47, 47] _
  generalize Lib.join ls [47] = J at hj hjl hv
  clear hcells hK
  generalize ls.length = n at hj hcap hl
  go_enter Tryz.func114, Tryz.ntmps114
  go_wp2_with (go_at_call 88; refine hj.mono ?_; rintro e w8 ⟨rfl, hc8⟩)
  go_ret
  exact ⟨ret_str (by rw [hv.out]), hc8⟩
end Go.Proofs.YtmfjppaeddbdaaaGreatDoor
set_option linter.unusedVariables false
set_option linter.unusedSimpArgs false
namespace Go.Proofs.YtmfjppaeddbdaaaGreatDoor
open Go Go.RowKit Sy

set_option maxHeartbeats 1000000 in
theorem wild_c (p : Pat) (A : Option Addr) (c : Nat) (w : World) (hr : StrsG w A p.parts) (hsh : ∀ x ∈ p.parts, x.length ≤ 16384) (hv : patErr p = 0) :
    Calls Tryz.prog 112 #[.agg #[.slice A p.parts.length c, .bool p.rest]] w fun e w' => e = .returned (.int .i64 (starN p + (if p.rest then 1 else 0) : Nat)) ∧ Calm w w' := by
  obtain ⟨w1, hw1⟩ : ∃ w1, w1 = w.alloc (.cells #[.slice A p.parts.length c, .bool p.rest] 40) := ⟨_, rfl⟩
  have hc1 : Calm w w1 := by rw [hw1]; exact (Calm.refl w).alloc _
  have hk := rkinds_c p A c w1 (hr.calm hc1) hsh hv
  have hS := starN_le p hv
  have HW := Lib.hid hw1
  have HC := Lib.hid hc1
  clear hw1 hc1 hr hv hsh
  generalize starN p = S at *
  generalize p.parts.length = n at *
  cases hre : p.rest with
  | false =>
    rw [hre] at hk HW
    go_enter Tryz.func112, Tryz.ntmps112
    go_wp2_with (go_at_call 68; rw [← HW.out]; refine hk.mono ?_; rintro e w2 ⟨rfl, hc2⟩)
    go_ret
    exact ⟨rfl, HC.out.trans hc2⟩
  | true =>
    rw [hre] at hk HW
    go_enter Tryz.func112, Tryz.ntmps112
    go_wp2_with (go_at_call 68; rw [← HW.out]; refine hk.mono ?_; rintro e w2 ⟨rfl, hc2⟩)
    go_ret
    exact ⟨ret_int (by simp), HC.out.trans hc2⟩

set_option maxRecDepth 100000 in
set_option maxHeartbeats 4000000 in
theorem rfill_c (p : Pat) (cs rl : List Str) (A : Option Addr) (c : Nat) (CA : Option Addr) (cc : Nat) (w : World) (hp : patErr p = 0) (hr : StrsR w A p.parts) (h8 : ∀ x ∈ p.parts, x.length ≤ 8000) (hnc : p.parts.length ≤ c) (hc47 : c ≤ 9223372036854775807) (hf : Fits p cs rl)
    (hcap : StrsR w CA (capsOf p cs rl)) (hM : MaxL w) :
    Calls Tryz.prog 78 #[.agg #[.slice A p.parts.length c, .bool p.rest], .slice CA (capsOf p cs rl).length cc] w fun e w' => e = .returned (.tuple #[.string (bs (fillS p cs rl)), .int .i64 0]) ∧ Calm w w' := by
  have h12 := patErr_len hp
  have hn1 := (patErr_form hp).1
  obtain ⟨n, hn⟩ : ∃ n, p.parts.length = n := ⟨_, rfl⟩
  obtain ⟨m, hm⟩ : ∃ m, (capsOf p cs rl).length = m := ⟨_, rfl⟩
  obtain ⟨S, hS⟩ : ∃ S, starN p = S := ⟨_, rfl⟩
  obtain ⟨re, hre⟩ : ∃ re, p.rest = re := ⟨_, rfl⟩
  obtain ⟨w1, hw1⟩ : ∃ w1, w1 = w.alloc (.cells #[.slice A n c, .bool re] 40) := ⟨_, rfl⟩
  have hc1 : Calm w w1 := by rw [hw1]; exact (Calm.refl w).alloc _
  have hs1 : w.heap.size < w1.heap.size := by rw [hw1]; simp
  have k0 : w1.cell? ⟨w.heap.size, 0, none⟩ = some (.slice A n c) := by rw [hw1]; simp
  have k1 : w1.cell? ⟨w.heap.size, 1, none⟩ = some (.bool re) := by rw [hw1]; simp
  have hk := rcheckG_c p A c w1 (StrsR.toG (hr.calm hc1)) hnc hc47
  have hS12 := starN_le p hp
  have hms : m = S + (if re then 1 else 0) := by rw [← hm, ← hS, ← hre, capsOf, List.length_append, hf.n]; split <;> rfl
  have KW : Hid (∀ W, Calm w1 W → Calls Tryz.prog 112 #[.agg #[.slice A n c, .bool re]] W fun e w' => e = .returned (.int .i64 m) ∧ Calm W w') := fun W hW => by
    have := wild_c p A c W (StrsR.toG ((hr.calm hc1).calm hW)) (fun x hx => by have := h8 x hx; omega) hp
    rw [hn, hre, hS, ← hms] at this
    exact this
  rw [hn, hre, hp] at hk
  rw [hn] at h12 hn1
  rw [hS] at hS12
  rw [hre, hn, hm]
  have HW := Lib.hid hw1
  have HC := Lib.hid hc1
  have HN := Lib.hid (And.intro hn (And.intro hm (And.intro hS hre)))
  have HF := Lib.hid hf
  have HP := Lib.hid (goodPat_of hp)
  have HR := Lib.hid (hr.calm hc1)
  have HCaps := Lib.hid (hcap.calm hc1)
  have HM := Lib.hid (hM.calm hc1)
  have HK := Lib.hid (And.intro k0 k1)
  have H8 := Lib.hid h8
  clear h8 hn hm hS hre hw1 hc1 k0 k1 hr hp hf hcap hM hnc
  have hmm : ((m : Int) != (m : Int)) = false := by simp
  go_enter Tryz.func78, Tryz.ntmps78
  cases re with
  | false =>
    have hmS1 : m ≤ S := by rw [hms]; exact Nat.le_refl _
    have hmS2 : S ≤ m := by rw [hms]; exact Nat.le_refl _
    clear hms
    go_wp2_with (first
      | (go_at_call 67; rw [← HW.out]; refine hk.mono ?_; rintro e w2 ⟨rfl, hc2⟩; have l0 := hc2.at_ HK.out.1 hs1; have l1 := hc2.at_ HK.out.2 hs1)
      | (go_at_call 112; refine (KW.out _ hc2).mono ?_; rintro e w3 ⟨rfl, hc3⟩; have m0 := (hc2.trans hc3).at_ HK.out.1 hs1))
    have HC3 := Lib.hid (hc2.trans hc3)
    clear hk l0 l1 hc2 hc3 m0 hmm KW
    go_loopw [7, 8, 28] (fun v u8 q wr => ∃ (k T : Nat), k ≤ n ∧ q = .int .i64 k ∧ u8 = .int .i64 T ∧ T ≤ k ∧ Hid (starTo p k = T) ∧ Hid (OwnS w3 wr v ((fillR p.parts cs).take k))) (fun _ _ q _ => n - (intOf q).toNat)
    case atStart => exact ⟨0, 0, Nat.zero_le _, rfl, rfl, Nat.le_refl _, rfl, OwnS.nil (Calm.refl _)⟩
    case round =>
      obtain ⟨k, T, hk, rfl, rfl, hT, HT, HO⟩ := hrel
      by_cases hlt : k < n
      · obtain ⟨pb, po, x, rfl, hpb, hx, hxl, hxc⟩ := (HR.out.calm (HC3.out.trans HO.out.calm)).get (k := k) (by rw [HN.out.1]; exact hlt)
        have hst := starTo_succ hx
        have hfs := fillR_step (cs := cs) hx
        rw [HT.out] at hst hfs
        have hpo := HP.out x (List.mem_of_getElem? hx)
        have HSt := Lib.hid hst
        have HFs := Lib.hid hfs
        have hok := starOk_iff hpo
        have hlen : ((fillR p.parts cs).take k).length ≤ 1000000 := by rw [List.length_take]; omega
        clear hx hst hfs
        rcases hs : isStar x with _ | _
        · have hf2 : Hid ((fillR p.parts cs).take (k + 1) = (fillR p.parts cs).take k ++ [x]) := by
            show _ = _
            rw [HFs.out, hs]
            rfl
          rw [hs] at hok
          go_wp2_with (first
            | (go_at_call 97; refine (star_v x _ _ _ hxl hok rfl).mono ?_; rintro e w' ⟨rfl, rfl⟩)
            | (at_builtin; refine wpList_append_str rfl (.tmp 52) (.tmp 54) rfl w3 _ ((fillR p.parts cs).take k) rfl (HO.out.to ((Calm.refl wr).alloc (.cells #[.string (bs x)] 9))) wr.heap.size 0 1 rfl x (new_str _ rfl) hlen ?_; intro v5 w5 hown5 hgrow5))
          go_roundw
          case rel => exact ⟨k + 1, T, by omega, by go_num, rfl, by omega, (by show starTo p (k + 1) = T; rw [HSt.out, hs]; rfl), (by rw [hf2.out]; exact hown5)⟩
          case measure => simp [intOf]; omega
        · have hT1 : T + 1 ≤ S := by
            have h1 := starTo_mono p (show k + 1 ≤ n by omega)
            have h2 := starTo_all p
            rw [HN.out.1, HN.out.2.2.1] at h2
            rw [HSt.out, hs, h2] at h1
            exact h1
          obtain ⟨y, hy⟩ : ∃ y, cs.getD T [] = y := ⟨_, rfl⟩
          have hTl : T < cs.length := by rw [HF.out.n, HN.out.2.2.1]; omega
          have hyT : cs[T]? = some y := by rw [← hy, List.getD_eq_getElem?_getD, List.getElem?_eq_getElem hTl]; rfl
          have hym := List.mem_of_getElem? hyT
          have hyc : comp y = true := List.all_eq_true.1 HF.out.c y hym
          have hyl := HF.out.cl y hym
          have h3 : (capsOf p cs rl)[T]? = some y := by rw [capsOf, List.getElem?_append_left hTl, hyT]
          have hf2 : Hid ((fillR p.parts cs).take (k + 1) = (fillR p.parts cs).take k ++ [y ++ x.tail]) := by
            show _ = _
            rw [HFs.out, hs, hy]
            rfl
          obtain ⟨cb, co, y', rfl, hcb, hy', _, hcell⟩ := (HCaps.out.calm (HC3.out.trans HO.out.calm)).get (k := T) (by rw [HN.out.2.1]; omega)
          obtain rfl : y = y' := by rw [h3] at hy'; exact Option.some.inj hy'
          have hTm : T < m := by omega
          have hst2 : Hid (starTo p (k + 1) = T + 1) := by
            show _ = _
            rw [HSt.out, hs]
            rfl
          have hsf : starSuf x = x.tail := by rw [starSuf, hok, hs]; rfl
          have hcat : bs y ++ bs x.tail = bs (y ++ x.tail) := (bs_append y x.tail).symm
          rw [hs] at hok
          clear hy hyT hym hy' hTl h3
          go_wp2_with (first
            | (go_at_call 97; refine (star_v x _ _ _ hxl hok hsf).mono ?_; rintro e w' ⟨rfl, rfl⟩)
            | (go_at_call 95; refine (rcomp_v _ _ _ (by omega) hyc).mono ?_; rintro e w' ⟨rfl, rfl⟩)
            | (at_builtin; refine wpList_append_str rfl (.tmp 52) (.tmp 54) rfl w3 _ ((fillR p.parts cs).take k) rfl (HO.out.to ((Calm.refl wr).alloc (.cells #[.string (bs (y ++ x.tail))] 9))) wr.heap.size 0 1 rfl (y ++ x.tail) (new_str _ rfl) hlen ?_; intro v5 w5 hown5 hgrow5))
          go_roundw
          case rel => exact ⟨k + 1, T + 1, by omega, by go_num, by go_num, by omega, hst2, (by rw [hf2.out]; exact hown5)⟩
          case measure => simp [intOf]; omega
      · obtain rfl : k = n := by omega
        have hTS : T = S := by
          have h2 := starTo_all p
          rw [HN.out.1, HN.out.2.2.1, HT.out] at h2
          exact h2
        have HTS := Lib.hid hTS
        have hlsl : (fillR p.parts cs).take k = fillR p.parts cs := by rw [← HN.out.1]; exact fillR_take_all p cs
        have hfn : (fillR p.parts cs).length = k := by rw [fillR_len]; exact HN.out.1
        have hfl : ∀ l ∈ fillR p.parts cs, l.length ≤ 18000 := fill_each HF.out H8.out
        have hO2 := HO.out
        rw [hlsl] at hO2
        have HO2 := Lib.hid hO2
        have r1 := (HC3.out.trans HO.out.calm).at_ HK.out.2 hs1
        clear hlsl hO2 hTS
        have hfin : Hid (bs (fillS p cs rl) = bs (47 :: 47 :: Lib.join (fillR p.parts cs) [47])) := by
          show _ = _
          rw [fillS, HN.out.2.2.2, pathStr]
          simp only [Bool.false_eq_true, if_false, List.append_nil]
        obtain ⟨A9, c9, hv9, hle9, hat9⟩ := owns_strs HO2.out.own
        obtain ⟨g9, rfl, _, hg9, hcells9⟩ := hat9 (by omega)
        have hj := rjoin_c (fillR p.parts cs) g9 c9 wr hcells9 hg9 hle9 (by omega) (fun l hl => by have := hfl l hl; omega)
        rw [hfn] at hv9 hj
        subst hv9
        clear hat9 hfl hfn hle9 hcells9
        go_wp2_with (go_at_call 114; refine hj.mono ?_; rintro e w7 ⟨rfl, hc7⟩)
        go_ret2
        exact ⟨by rw [hfin.out]; rfl, HC.out.trans (HC3.out.trans (HO.out.calm.trans hc7))⟩

  | true =>
    have hmS1 : m ≤ S + 1 := by rw [hms]; exact Nat.le_refl _
    have hmS2 : S + 1 ≤ m := by rw [hms]; exact Nat.le_refl _
    clear hms
    go_wp2_with (first
      | (go_at_call 67; rw [← HW.out]; refine hk.mono ?_; rintro e w2 ⟨rfl, hc2⟩; have l0 := hc2.at_ HK.out.1 hs1; have l1 := hc2.at_ HK.out.2 hs1)
      | (go_at_call 112; refine (KW.out _ hc2).mono ?_; rintro e w3 ⟨rfl, hc3⟩; have m0 := (hc2.trans hc3).at_ HK.out.1 hs1))
    have HC3 := Lib.hid (hc2.trans hc3)
    clear hk l0 l1 hc2 hc3 m0 hmm KW
    go_loopw [7, 8, 28] (fun v u8 q wr => ∃ (k T : Nat), k ≤ n ∧ q = .int .i64 k ∧ u8 = .int .i64 T ∧ T ≤ k ∧ Hid (starTo p k = T) ∧ Hid (OwnS w3 wr v ((fillR p.parts cs).take k))) (fun _ _ q _ => n - (intOf q).toNat)
    case atStart => exact ⟨0, 0, Nat.zero_le _, rfl, rfl, Nat.le_refl _, rfl, OwnS.nil (Calm.refl _)⟩
    case round =>
      obtain ⟨k, T, hk, rfl, rfl, hT, HT, HO⟩ := hrel
      by_cases hlt : k < n
      · obtain ⟨pb, po, x, rfl, hpb, hx, hxl, hxc⟩ := (HR.out.calm (HC3.out.trans HO.out.calm)).get (k := k) (by rw [HN.out.1]; exact hlt)
        have hst := starTo_succ hx
        have hfs := fillR_step (cs := cs) hx
        rw [HT.out] at hst hfs
        have hpo := HP.out x (List.mem_of_getElem? hx)
        have HSt := Lib.hid hst
        have HFs := Lib.hid hfs
        have hok := starOk_iff hpo
        have hlen : ((fillR p.parts cs).take k).length ≤ 1000000 := by rw [List.length_take]; omega
        clear hx hst hfs
        rcases hs : isStar x with _ | _
        · have hf2 : Hid ((fillR p.parts cs).take (k + 1) = (fillR p.parts cs).take k ++ [x]) := by
            show _ = _
            rw [HFs.out, hs]
            rfl
          rw [hs] at hok
          go_wp2_with (first
            | (go_at_call 97; refine (star_v x _ _ _ hxl hok rfl).mono ?_; rintro e w' ⟨rfl, rfl⟩)
            | (at_builtin; refine wpList_append_str rfl (.tmp 52) (.tmp 54) rfl w3 _ ((fillR p.parts cs).take k) rfl (HO.out.to ((Calm.refl wr).alloc (.cells #[.string (bs x)] 9))) wr.heap.size 0 1 rfl x (new_str _ rfl) hlen ?_; intro v5 w5 hown5 hgrow5))
          go_roundw
          case rel => exact ⟨k + 1, T, by omega, by go_num, rfl, by omega, (by show starTo p (k + 1) = T; rw [HSt.out, hs]; rfl), (by rw [hf2.out]; exact hown5)⟩
          case measure => simp [intOf]; omega
        · have hT1 : T + 1 ≤ S := by
            have h1 := starTo_mono p (show k + 1 ≤ n by omega)
            have h2 := starTo_all p
            rw [HN.out.1, HN.out.2.2.1] at h2
            rw [HSt.out, hs, h2] at h1
            exact h1
          obtain ⟨y, hy⟩ : ∃ y, cs.getD T [] = y := ⟨_, rfl⟩
          have hTl : T < cs.length := by rw [HF.out.n, HN.out.2.2.1]; omega
          have hyT : cs[T]? = some y := by rw [← hy, List.getD_eq_getElem?_getD, List.getElem?_eq_getElem hTl]; rfl
          have hym := List.mem_of_getElem? hyT
          have hyc : comp y = true := List.all_eq_true.1 HF.out.c y hym
          have hyl := HF.out.cl y hym
          have h3 : (capsOf p cs rl)[T]? = some y := by rw [capsOf, List.getElem?_append_left hTl, hyT]
          have hf2 : Hid ((fillR p.parts cs).take (k + 1) = (fillR p.parts cs).take k ++ [y ++ x.tail]) := by
            show _ = _
            rw [HFs.out, hs, hy]
            rfl
          obtain ⟨cb, co, y', rfl, hcb, hy', _, hcell⟩ := (HCaps.out.calm (HC3.out.trans HO.out.calm)).get (k := T) (by rw [HN.out.2.1]; omega)
          obtain rfl : y = y' := by rw [h3] at hy'; exact Option.some.inj hy'
          have hTm : T < m := by omega
          have hst2 : Hid (starTo p (k + 1) = T + 1) := by
            show _ = _
            rw [HSt.out, hs]
            rfl
          have hsf : starSuf x = x.tail := by rw [starSuf, hok, hs]; rfl
          have hcat : bs y ++ bs x.tail = bs (y ++ x.tail) := (bs_append y x.tail).symm
          rw [hs] at hok
          clear hy hyT hym hy' hTl h3
          go_wp2_with (first
            | (go_at_call 97; refine (star_v x _ _ _ hxl hok hsf).mono ?_; rintro e w' ⟨rfl, rfl⟩)
            | (go_at_call 95; refine (rcomp_v _ _ _ (by omega) hyc).mono ?_; rintro e w' ⟨rfl, rfl⟩)
            | (at_builtin; refine wpList_append_str rfl (.tmp 52) (.tmp 54) rfl w3 _ ((fillR p.parts cs).take k) rfl (HO.out.to ((Calm.refl wr).alloc (.cells #[.string (bs (y ++ x.tail))] 9))) wr.heap.size 0 1 rfl (y ++ x.tail) (new_str _ rfl) hlen ?_; intro v5 w5 hown5 hgrow5))
          go_roundw
          case rel => exact ⟨k + 1, T + 1, by omega, by go_num, by go_num, by omega, hst2, (by rw [hf2.out]; exact hown5)⟩
          case measure => simp [intOf]; omega
      · obtain rfl : k = n := by omega
        have hTS : T = S := by
          have h2 := starTo_all p
          rw [HN.out.1, HN.out.2.2.1, HT.out] at h2
          exact h2
        have HTS := Lib.hid hTS
        have hlsl : (fillR p.parts cs).take k = fillR p.parts cs := by rw [← HN.out.1]; exact fillR_take_all p cs
        have hfn : (fillR p.parts cs).length = k := by rw [fillR_len]; exact HN.out.1
        have hfl : ∀ l ∈ fillR p.parts cs, l.length ≤ 18000 := fill_each HF.out H8.out
        have hO2 := HO.out
        rw [hlsl] at hO2
        have HO2 := Lib.hid hO2
        have r1 := (HC3.out.trans HO.out.calm).at_ HK.out.2 hs1
        clear hlsl hO2 hTS
        obtain ⟨hrl0, hrlc⟩ := HF.out.r HN.out.2.2.2
        obtain ⟨J, hJ⟩ : ∃ J, Lib.join rl [47] = J := ⟨_, rfl⟩
        have hJl : J.length ≤ 10000 := by rw [← hJ]; exact HF.out.rl_
        have hTJ : (capsOf p cs rl)[T]? = some J := by
          rw [capsOf, HN.out.2.2.2, HTS.out, hJ]
          simp only [if_true]
          rw [List.getElem?_append_right (by rw [HF.out.n, HN.out.2.2.1]; exact Nat.le_refl _), HF.out.n, HN.out.2.2.1, Nat.sub_self]
          rfl
        obtain ⟨cb, co, y', rfl, hcb, hy', _, hcell⟩ := (HCaps.out.calm (HC3.out.trans HO.out.calm)).get (k := T) (by rw [HN.out.2.1, HTS.out]; omega)
        obtain rfl : J = y' := by rw [hTJ] at hy'; exact Option.some.inj hy'
        have hTm : T < m := by have := HTS.out; omega
        have hsp := split_c J wr (by omega) (HM.out.calm (HC3.out.trans HO.out.calm))
        have hsl : slash J = rl := by rw [← hJ]; exact slash_join rl hrl0 (fun x hx => comp_no47 (List.all_eq_true.1 hrlc x hx))
        have hrle : ∀ l ∈ rl, l.length ≤ 10000 := fun l hl => by
          have := slash_each J l (by rw [hsl]; exact hl)
          omega
        obtain ⟨rn, hrn⟩ : ∃ rn, rl.length = rn := ⟨_, rfl⟩
        have hrn4 : rn ≤ 10001 := by
          have h1 := slash_len J
          rw [hsl, hrn] at h1
          omega
        rw [hsl, hrn] at hsp
        have HJ := Lib.hid (And.intro hJ (And.intro hrn (And.intro hrl0 (And.intro hrlc hrle))))
        have HFl := Lib.hid (And.intro hfl hfn)
        clear hJ hrn hrl0 hrlc hsl hy' hTJ hrle hfl hfn
        go_wp2_with (go_at_call 113; refine hsp.mono ?_; rintro e w4 ⟨rfl, hc4, hst4⟩)
        have HS4 := Lib.hid hst4
        have HO4 := Lib.hid (HO2.out.to hc4)
        have hne4 : Hid (u7.ownBlock ≠ some wr.heap.size) := fun e => by
          have := (owns_lt HO2.out.own e).2
          omega
        have hsz4 : wr.heap.size < w4.heap.size := by
          obtain ⟨b4, o4, hA4, hb4, _⟩ := hst4.at_ (by rw [HJ.out.2.1]; exact Nat.pos_of_ne_zero fun e => HJ.out.2.2.1 (List.eq_nil_of_length_eq_zero (by rw [HJ.out.2.1]; exact e)))
          obtain ⟨rfl, rfl⟩ : wr.heap.size = b4 ∧ 0 = o4 := by simpa using hA4
          exact hb4
        obtain ⟨wo, hwo⟩ : ∃ wo : World, wo = wr := ⟨_, rfl⟩
        subst hwo
        have HC4 := Lib.hid hc4
        clear hsp hst4 hc4 hcell hcb
        go_loopw [7, 65] (fun v q wq => ∃ i : Nat, i ≤ rn ∧ q = .int .i64 i ∧ Hid (OwnS w3 wq v (fillR p.parts cs ++ rl.take i)) ∧ Hid (StrsG wq (some ⟨wo.heap.size, 0, none⟩) rl) ∧ Hid (v.ownBlock ≠ some wo.heap.size) ∧ wo.heap.size < wq.heap.size) (fun _ q _ => rn - (intOf q).toNat)
        case atStart => exact ⟨0, Nat.zero_le _, rfl, (by rw [List.take_zero, List.append_nil]; exact HO4.out), HS4.out, hne4, hsz4⟩
        case round =>
          obtain ⟨i, hi, rfl, HOi, HSi, HNi, hszi⟩ := hrel
          by_cases hilt : i < rn
          · obtain ⟨sb, so, l, hA, hsb, hl, hll, hlc⟩ := HSi.out.get (k := i) (by rw [HJ.out.2.1]; exact hilt)
            obtain ⟨rfl, rfl⟩ : wo.heap.size = sb ∧ 0 = so := by simpa using hA
            rw [Nat.zero_add] at hlc
            have hlco : comp l = true := List.all_eq_true.1 HJ.out.2.2.2.1 l (List.mem_of_getElem? hl)
            have hnext : Hid (fillR p.parts cs ++ rl.take (i + 1) = fillR p.parts cs ++ rl.take i ++ [l]) := by
              show _ = _
              obtain ⟨h1, h2⟩ := List.getElem?_eq_some_iff.1 hl
              rw [List.take_succ_eq_append_getElem h1, h2, List.append_assoc]
            have hlen : (fillR p.parts cs ++ rl.take i).length ≤ 1000000 := by
              rw [List.length_append, HFl.out.2, List.length_take]
              omega
            clear hA hl
            go_wp2_with (first
              | (go_at_call 95; refine (rcomp_v _ _ _ hll hlco).mono ?_; rintro e w' ⟨rfl, rfl⟩)
              | (at_builtin; refine wpList_append_str2 rfl (.tmp 72) (.tmp 74) rfl w3 _ (fillR p.parts cs ++ rl.take i) rfl (HOi.out.to ((Calm.refl wr).alloc (.cells #[.string (bs l)] 9))) wr.heap.size 0 1 rfl l (new_str _ rfl) hlen ?_; intro v5 w5 hown5 hgrow5 hblk5))
            have hsz5 : wr.heap.size + 1 ≤ w5.heap.size := by have := hgrow5.size; simpa using this
            have HB5 := Lib.hid hblk5
            have HG5 := Lib.hid hgrow5
            clear hblk5 hgrow5
            go_roundw
            case rel =>
              refine ⟨i + 1, by omega, by go_num, (by rw [hnext.out]; exact hown5), ?_, ?_, by omega⟩
              · exact (HSi.out.calm ((Calm.refl wr).alloc _)).grown HG5.out fun a ha => by
                  obtain rfl := Option.some.inj ha
                  exact HNi.out
              · intro e
                rcases HB5.out _ e with h | h
                · exact HNi.out h
                · simp at h
                  omega
            case measure => simp [intOf]; omega
          · obtain rfl : i = rn := by omega
            have hO9 := HOi.out
            have hrt : rl.take i = rl := by rw [← HJ.out.2.1]; exact List.take_length
            rw [hrt] at hO9
            obtain ⟨LL, hLL⟩ : ∃ LL, fillR p.parts cs ++ rl = LL := ⟨_, rfl⟩
            rw [hLL] at hO9
            have hLn : LL.length = k + i := by rw [← hLL, List.length_append, HFl.out.2, HJ.out.2.1]
            have hLe : ∀ l ∈ LL, l.length ≤ 20000 := fun l hl => by
              rw [← hLL, List.mem_append] at hl
              rcases hl with h | h
              · have := HFl.out.1 l h; omega
              · have := HJ.out.2.2.2.2 l h; omega
            have hfin : Hid (bs (fillS p cs rl) = bs (47 :: 47 :: Lib.join LL [47])) := by
              show _ = _
              rw [fillS, HN.out.2.2.2, pathStr]
              simp only [if_true]
              rw [hLL]
            have HO9 := Lib.hid hO9
            obtain ⟨A9, c9, hv9, hle9, hat9⟩ := owns_strs hO9.own
            obtain ⟨g9, rfl, _, hg9, hcells9⟩ := hat9 (by omega)
            have hj := rjoin_c LL g9 c9 wr hcells9 hg9 hle9 (by omega) hLe
            rw [hLn] at hv9 hj
            subst hv9
            clear hO9 hrt hLL hLe hat9 hle9 hcells9
            go_wp2_with (go_at_call 114; refine hj.mono ?_; rintro e w7 ⟨rfl, hc7⟩)
            go_ret2
            exact ⟨by rw [hfin.out]; rfl, HC.out.trans (HC3.out.trans (HO9.out.calm.trans hc7))⟩

end Go.Proofs.YtmfjppaeddbdaaaGreatDoor
set_option linter.unusedVariables false
set_option linter.unusedSimpArgs false
namespace Go.Proofs.YtmfjppaeddbdaaaGreatDoor
open Go Go.RowKit Sy

set_option maxHeartbeats 4000000 in
theorem rfwd_c (r : Rule) (a : Pl) (s : Str) (w : World) (hr : RuleU w a r) (hsm : SmallV r) (hs : s.length ≤ 10000) (hM : MaxL w) :
    Calls Tryz.prog 53 #[ruleV a r, .string (bs s)] w fun e w' => e = .returned (fwdV r s) ∧ Calm w w' := by
  obtain ⟨nl, hnl⟩ : ∃ nl, r.left.parts.length = nl := ⟨_, rfl⟩
  obtain ⟨nr, hnr⟩ : ∃ nr, r.right.parts.length = nr := ⟨_, rfl⟩
  obtain ⟨lr, hlr⟩ : ∃ lr, r.left.rest = lr := ⟨_, rfl⟩
  obtain ⟨rr, hrr⟩ : ∃ rr, r.right.rest = rr := ⟨_, rfl⟩
  obtain ⟨ex, hex⟩ : ∃ ex, r.excl = ex := ⟨_, rfl⟩
  obtain ⟨w1, hw1⟩ : ∃ w1, w1 = w.alloc (.cells #[.bool ex, .slice a.AL nl a.cl, .bool lr, .slice a.AR nr a.cr, .bool rr] 59) := ⟨_, rfl⟩
  have hc1 : Calm w w1 := by rw [hw1]; exact (Calm.refl w).alloc _
  have hbox : BoxR w1 w.heap.size a r nl nr lr rr ex := by rw [hw1]; exact ⟨by simp, by simp, by simp, by simp, by simp, by simp⟩
  have hru := hr.calm hc1
  obtain ⟨v, hv⟩ : ∃ v, ruleErr r = v := ⟨_, rfl⟩
  have hk := rrule_c r a w1 hru hsm.small
  unfold ruleV at hk ⊢
  rw [hnl, hnr, hlr, hrr, hex] at hk ⊢
  rw [hv] at hk
  have HW := Lib.hid hw1
  have HC := Lib.hid hc1
  have HB := Lib.hid hbox
  have KM : Hid (∀ W, Calm w1 W → Calls Tryz.prog 77 #[.agg #[.slice a.AL nl a.cl, .bool lr], .string (bs s)] W fun e w' => MatchEnd r.left s e w' ∧ Calm W w') := fun W hW => by
    have h := hru.calm hW
    have := rmatch_c r.left s a.AL a.cl W hs (h.left hsm.small) h.lroom h.lcap ((hM.calm hc1).calm hW)
    rw [hnl, hlr] at this
    exact this
  have hno : v ≠ 0 → Hid (fwdV r s = .tuple #[.string (bs []), .bool false]) := fun h => by
    show fwdV r s = _
    rw [fwdV, fwd_err (by rw [hv]; exact h)]
    rfl
  have HN := Lib.hid (And.intro hnr hrr)
  have HR := Lib.hid hru
  have HM := Lib.hid (hM.calm hc1)
  have HSm := Lib.hid hsm
  have HV := Lib.hid hv
  clear hw1 hc1 hbox hru hr hM hsm hnl hnr hlr hrr hex hv
  go_enter Tryz.func53, Tryz.ntmps53
  by_cases hv0 : v = 0
  · subst hv0
    clear hno
    go_wp2_with fail
    rw [← HW.out]
    refine hk.mono ?_
    rintro e w2 ⟨rfl, hc2⟩
    have hmt := KM.out w2 hc2
    have d2 := HB.out.calm hc2
    have e1 := d2.c1
    have e2 := d2.c2
    rcases hm : matchS r.left s with _ | _
    · have hf : Hid (fwdV r s = .tuple #[.string (bs []), .bool false]) := by
        show fwdV r s = _
        rw [fwdV, fwd_no hm]
        rfl
      have hq : Calls Tryz.prog 77 #[.agg #[.slice a.AL nl a.cl, .bool lr], .string (bs s)] w2 fun e w' => e = .returned (.tuple #[.slice none 0 0, .bool false]) ∧ Calm w2 w' := hmt.mono fun e w' ⟨h1, h2⟩ => by
        rcases h1 with ⟨h3, _⟩ | ⟨_, h3⟩
        · rw [hm] at h3
          cases h3
        · exact ⟨h3, h2⟩
      clear hmt hm hk KM d2
      go_wp2_with (go_at_call 77; refine hq.mono ?_; rintro e w3 ⟨rfl, hc3⟩)
      go_ret2
      exact ⟨by rw [hf.out]; rfl, HC.out.trans (hc2.trans hc3)⟩
    · obtain ⟨cs, rl, hfit, hcap, hfw⟩ := fits_of HV.out hm hs
      have hf : Hid (fwdV r s = .tuple #[.string (bs (fillS r.right cs rl)), .bool true]) := by
        show fwdV r s = _
        rw [fwdV, hfw]
        rfl
      obtain ⟨m, hmm⟩ : ∃ m, (capsOf r.right cs rl).length = m := ⟨_, rfl⟩
      have hq : Calls Tryz.prog 77 #[.agg #[.slice a.AL nl a.cl, .bool lr], .string (bs s)] w2 fun e w' => ∃ CA cc, e = .returned (.tuple #[.slice CA m cc, .bool true]) ∧ m ≤ cc ∧ cc ≤ 9223372036854775807 ∧ StrsR w' CA (capsOf r.right cs rl) ∧ Calm w2 w' := hmt.mono fun e w' ⟨h1, h2⟩ => by
        rcases h1 with ⟨_, CA, cc, h3, h4, h5, h6⟩ | ⟨h3, _⟩
        · rw [hcap, hmm] at h3 h4
          rw [hcap] at h5
          exact ⟨CA, cc, h3, h4, h6, h5, h2⟩
        · rw [hm] at h3
          cases h3
      have KF : Hid (∀ W CA cc, Calm w1 W → m ≤ cc → cc ≤ 9223372036854775807 → StrsR W CA (capsOf r.right cs rl) → Calls Tryz.prog 78 #[.agg #[.slice a.AR nr a.cr, .bool rr], .slice CA m cc] W fun e w' => e = .returned (.tuple #[.string (bs (fillS r.right cs rl)), .int .i64 0]) ∧ Calm W w') := fun W CA cc hW h4 h5 h6 => by
        have h := HR.out.calm hW
        have := rfill_c r.right cs rl a.AR a.cr CA cc W (ruleErr_twin.1 HV.out).rp (h.right HSm.out.small) (fun x hx => by have := HSm.out.rs x hx; omega) h.rroom h.rcap hfit h6 (HM.out.calm hW)
        rw [hmm, HN.out.1, HN.out.2] at this
        exact this
      clear hmt hm hk KM d2 hfit hcap hfw hmm
      go_wp2_with (go_at_call 77; refine hq.mono ?_; rintro e w3 ⟨CA, cc, rfl, hcc, hcc2, hst, hc3⟩; have hfl := KF.out w3 CA cc (hc2.trans hc3) hcc hcc2 hst; have r3 := (HB.out.calm (hc2.trans hc3)).c3; have r4 := (HB.out.calm (hc2.trans hc3)).c4)
      go_wp2_with (go_at_call 78; refine hfl.mono ?_; rintro e w4 ⟨rfl, hc4⟩)
      go_ret2
      exact ⟨by rw [hf.out]; rfl, HC.out.trans (hc2.trans (hc3.trans hc4))⟩
  · have hf := hno hv0
    have hvb : (v != 0) = true := by simpa using hv0
    clear KM hno hv0
    go_wp2_with fail
    rw [← HW.out]
    refine hk.mono ?_
    rintro e w2 ⟨rfl, hc2⟩
    go_wp2
    go_ret2
    exact ⟨by rw [hf.out]; rfl, HC.out.trans hc2⟩
end Go.Proofs.YtmfjppaeddbdaaaGreatDoor
