/- A region that draws its order, whose operations read and whose callees only make new blocks: walked once. -/
import Derived.WalkKit
import Derived.Lib.Hide
import Derived.Deep.Draws
import Derived.Deep.QuietTactic
import Derived.BigQuiet
import Derived.Test.YtglnkpgfdjnhnaaGreatDoorZPlain
set_option linter.unusedVariables false
set_option linter.unusedSimpArgs false
namespace Go.Proofs.YtglnkpgfdjnhnaaGreatDoor
open Go.RowKit Sy

/-- The string of a list of bytes. -/
def bs (l : List UInt8) : ByteArray := ⟨l.toArray⟩
theorem bs_toList (l : List UInt8) : (bs l).data.toList = l := by simp [bs]
theorem bs_size (l : List UInt8) : (bs l).size = l.length := by simp [bs, ByteArray.size]
theorem bs_toL (l : List UInt8) : (bs l).toList = l := by rw [ByteArray.toList_eq]; exact bs_toList l
theorem bs_get (l : List UInt8) (k : Nat) (h : k < (bs l).size) : (bs l)[k]'h = l[k]'(by rw [bs_size] at h; exact h) := by
  show (bs l).data[k]'h = _
  simp [bs]
attribute [go_sem] bs_toL bs_size bs_toList bs_get
theorem bs_eta (s : ByteArray) : bs s.data.toList = s := by cases s; simp [bs]

theorem ret_bool {a b : Bool} (h : a = b) : Ending.returned (.bool a) = .returned (.bool b) := by rw [h]
theorem ret_int {k : IntKind} {a b : Int} (h : a = b) : Ending.returned (.int k a) = .returned (.int k b) := by rw [h]
theorem ret_str {a b : ByteArray} (h : a = b) : Ending.returned (.string a) = .returned (.string b) := by rw [h]

/-- Only new blocks, and draws: what a call leaves of the world. -/
abbrev Calm (w w' : World) : Prop := Below w.heap.size w w'

theorem Calm.refl (w : World) : Calm w w := Below.refl _ _
theorem Calm.trans {a b c : World} (h : Calm a b) (k : Calm b c) : Calm a c := Below.trans h (Below.mono k h.size)
theorem Calm.drewN {a b : World} (h : Calm a b) (n : Nat) : Calm a (b.drewN n) := ⟨h.os, h.tape, h.output, h.size, h.block⟩
theorem Calm.alloc {a b : World} (h : Calm a b) (o : Obj) : Calm a (b.alloc o) := Below.alloc h h.size o

/-- A slice of strings reads as ls. -/
structure StrsR (w : World) (A : Option Addr) (ls : List Str) : Prop where
  len : ls.length ≤ 16384
  each : ∀ l ∈ ls, l.length ≤ 16384
  at_ : 0 < ls.length → ∃ b o, A = some ⟨b, o, none⟩ ∧ b < w.heap.size ∧ ∀ k l, ls[k]? = some l → w.cell? ⟨b, o + k, none⟩ = some (.string (bs l))

theorem StrsR.calm {w w' : World} {A : Option Addr} {ls : List Str} (h : StrsR w A ls) (hc : Calm w w') : StrsR w' A ls :=
  ⟨h.len, h.each, fun h0 => by
    obtain ⟨b, o, rfl, hb, hk⟩ := h.at_ h0
    exact ⟨b, o, rfl, Nat.lt_of_lt_of_le hb hc.size, fun k l hl => (hc.cell (p := ⟨b, o + k, none⟩) hb).trans (hk k l hl)⟩⟩

/-- A slice of patterns reads as ps. -/
structure PatsR (w : World) (A : Option Addr) (ps : List Pat) : Prop where
  len : ps.length ≤ 16384
  at_ : 0 < ps.length → ∃ b o, A = some ⟨b, o, none⟩ ∧ b < w.heap.size ∧ ∀ k p, ps[k]? = some p → ∃ Ak ck, w.cell? ⟨b, o + k * 2, none⟩ = some (.slice Ak p.parts.length ck) ∧ w.cell? ⟨b, o + k * 2 + 1, none⟩ = some (.bool p.rest) ∧ p.parts.length ≤ ck ∧ ck ≤ 9223372036854775807 ∧ StrsR w Ak p.parts

theorem PatsR.calm {w w' : World} {A : Option Addr} {ps : List Pat} (h : PatsR w A ps) (hc : Calm w w') : PatsR w' A ps :=
  ⟨h.len, fun h0 => by
    obtain ⟨b, o, rfl, hb, hk⟩ := h.at_ h0
    refine ⟨b, o, rfl, Nat.lt_of_lt_of_le hb hc.size, fun k p hp => ?_⟩
    obtain ⟨Ak, ck, h1, h2, h3, h5, h4⟩ := hk k p hp
    exact ⟨Ak, ck, (hc.cell (p := ⟨b, o + k * 2, none⟩) hb).trans h1, (hc.cell (p := ⟨b, o + k * 2 + 1, none⟩) hb).trans h2, h3, h5, h4.calm hc⟩⟩

/-- A slice of strings of any size reads as ls. -/
structure StrsG (w : World) (A : Option Addr) (ls : List Str) : Prop where
  len : ls.length ≤ 140737488355328
  each : ∀ l ∈ ls, l.length ≤ 140737488355328
  at_ : 0 < ls.length → ∃ b o, A = some ⟨b, o, none⟩ ∧ b < w.heap.size ∧ ∀ k l, ls[k]? = some l → w.cell? ⟨b, o + k, none⟩ = some (.string (bs l))
theorem StrsG.calm {w w' : World} {A : Option Addr} {ls : List Str} (h : StrsG w A ls) (hc : Calm w w') : StrsG w' A ls :=
  ⟨h.len, h.each, fun h0 => by
    obtain ⟨b, o, rfl, hb, hk⟩ := h.at_ h0
    exact ⟨b, o, rfl, Nat.lt_of_lt_of_le hb hc.size, fun k l hl => (hc.cell (p := ⟨b, o + k, none⟩) hb).trans (hk k l hl)⟩⟩
theorem StrsG.get {w : World} {A : Option Addr} {ls : List Str} (h : StrsG w A ls) {k : Nat} (hk : k < ls.length) : ∃ b o l, A = some ⟨b, o, none⟩ ∧ b < w.heap.size ∧ ls[k]? = some l ∧ l.length ≤ 140737488355328 ∧ w.cell? ⟨b, o + k, none⟩ = some (.string (bs l)) := by
  obtain ⟨b, o, hA, hb, hc⟩ := h.at_ (by omega)
  exact ⟨b, o, ls[k], hA, hb, List.getElem?_eq_getElem hk, h.each _ (List.getElem_mem hk), hc k _ (List.getElem?_eq_getElem hk)⟩
theorem StrsG.toR {w : World} {A : Option Addr} {ls : List Str} (h : StrsG w A ls) (h1 : ls.length ≤ 16384) (h2 : ∀ l ∈ ls, l.length ≤ 16384) : StrsR w A ls := ⟨h1, h2, h.at_⟩

/-- A slice of patterns of any size reads as ps. -/
structure PatsG (w : World) (A : Option Addr) (ps : List Pat) : Prop where
  len : ps.length ≤ 140737488355328
  at_ : 0 < ps.length → ∃ b o, A = some ⟨b, o, none⟩ ∧ b < w.heap.size ∧ ∀ k p, ps[k]? = some p → ∃ Ak ck, w.cell? ⟨b, o + k * 2, none⟩ = some (.slice Ak p.parts.length ck) ∧ w.cell? ⟨b, o + k * 2 + 1, none⟩ = some (.bool p.rest) ∧ p.parts.length ≤ ck ∧ ck ≤ 9223372036854775807 ∧ StrsG w Ak p.parts
theorem PatsG.calm {w w' : World} {A : Option Addr} {ps : List Pat} (h : PatsG w A ps) (hc : Calm w w') : PatsG w' A ps :=
  ⟨h.len, fun h0 => by
    obtain ⟨b, o, rfl, hb, hk⟩ := h.at_ h0
    refine ⟨b, o, rfl, Nat.lt_of_lt_of_le hb hc.size, fun k p hp => ?_⟩
    obtain ⟨Ak, ck, h1, h2, h3, h5, h4⟩ := hk k p hp
    exact ⟨Ak, ck, (hc.cell (p := ⟨b, o + k * 2, none⟩) hb).trans h1, (hc.cell (p := ⟨b, o + k * 2 + 1, none⟩) hb).trans h2, h3, h5, h4.calm hc⟩⟩
theorem PatsG.get {w : World} {A : Option Addr} {ps : List Pat} (h : PatsG w A ps) {k : Nat} (hk : k < ps.length) : ∃ b o p Ak ck, A = some ⟨b, o, none⟩ ∧ b < w.heap.size ∧ ps[k]? = some p ∧ w.cell? ⟨b, o + k * 2, none⟩ = some (.slice Ak p.parts.length ck) ∧ w.cell? ⟨b, o + k * 2 + 1, none⟩ = some (.bool p.rest) ∧ p.parts.length ≤ ck ∧ ck ≤ 9223372036854775807 ∧ StrsG w Ak p.parts := by
  obtain ⟨b, o, hA, hb, hc⟩ := h.at_ (by omega)
  obtain ⟨Ak, ck, h1, h2, h3, h4, h5⟩ := hc k _ (List.getElem?_eq_getElem hk)
  exact ⟨b, o, ps[k], Ak, ck, hA, hb, List.getElem?_eq_getElem hk, h1, h2, h3, h4, h5⟩
theorem PatsG.toR {w : World} {A : Option Addr} {ps : List Pat} (h : PatsG w A ps) (h1 : ps.length ≤ 16384) (h2 : ∀ p ∈ ps, p.parts.length ≤ 16384 ∧ ∀ l ∈ p.parts, l.length ≤ 16384) : PatsR w A ps :=
  ⟨h1, fun h0 => by
    obtain ⟨b, o, hA, hb, hk⟩ := h.at_ h0
    refine ⟨b, o, hA, hb, fun k p hp => ?_⟩
    obtain ⟨Ak, ck, g1, g2, g3, g5, g4⟩ := hk k p hp
    obtain ⟨q1, q2⟩ := h2 p (List.mem_of_getElem? hp)
    exact ⟨Ak, ck, g1, g2, g3, g5, g4.toR q1 q2⟩⟩

/-- A slice of strings of at most 1048576 strings of at most so many letters each reads as ls. -/
structure StrsU (w : World) (A : Option Addr) (ls : List Str) : Prop where
  len : ls.length ≤ 1048576
  each : ∀ l ∈ ls, l.length ≤ 1048576
  at_ : 0 < ls.length → ∃ b o, A = some ⟨b, o, none⟩ ∧ b < w.heap.size ∧ ∀ k l, ls[k]? = some l → w.cell? ⟨b, o + k, none⟩ = some (.string (bs l))
theorem StrsU.toG {w : World} {A : Option Addr} {ls : List Str} (h : StrsU w A ls) : StrsG w A ls := ⟨by have := h.len; omega, fun l hl => by have := h.each l hl; omega, h.at_⟩
theorem StrsU.calm {w w' : World} {A : Option Addr} {ls : List Str} (h : StrsU w A ls) (hc : Calm w w') : StrsU w' A ls := ⟨h.len, h.each, (h.toG.calm hc).at_⟩
theorem StrsU.toR {w : World} {A : Option Addr} {ls : List Str} (h : StrsU w A ls) (h1 : ls.length ≤ 16384) (h2 : ∀ l ∈ ls, l.length ≤ 16384) : StrsR w A ls := ⟨h1, h2, h.at_⟩
theorem StrsU.get {w : World} {A : Option Addr} {ls : List Str} (h : StrsU w A ls) {k : Nat} (hk : k < ls.length) : ∃ b o l, A = some ⟨b, o, none⟩ ∧ b < w.heap.size ∧ ls[k]? = some l ∧ l.length ≤ 1048576 ∧ w.cell? ⟨b, o + k, none⟩ = some (.string (bs l)) := by
  obtain ⟨b, o, hA, hb, hc⟩ := h.at_ (by omega)
  exact ⟨b, o, ls[k], hA, hb, List.getElem?_eq_getElem hk, h.each _ (List.getElem_mem hk), hc k _ (List.getElem?_eq_getElem hk)⟩
theorem StrsR.toU {w : World} {A : Option Addr} {ls : List Str} (h : StrsR w A ls) : StrsU w A ls := ⟨by have := h.len; omega, fun l hl => by have := h.each l hl; omega, h.at_⟩
theorem StrsR.toG {w : World} {A : Option Addr} {ls : List Str} (h : StrsR w A ls) : StrsG w A ls := h.toU.toG

end Go.Proofs.YtglnkpgfdjnhnaaGreatDoor
set_option linter.unusedVariables false
set_option linter.unusedSimpArgs false
namespace Go.Proofs.YtglnkpgfdjnhnaaGreatDoor
open Go Go.RowKit

/-- A world that v may have grown to. -/
structure CalmTo (v : World) where
  w : World
  h : Calm v w

instance (v : World) : Inhabited (CalmTo v) := ⟨⟨v, Calm.refl v⟩⟩

theorem calmTo_iff {w w' : World} : (∃ p : CalmTo w, w' = p.w) ↔ Calm w w' :=
  ⟨fun ⟨p, hp⟩ => hp ▸ p.h, fun h => ⟨⟨w', h⟩, rfl⟩⟩

theorem wp_region_calm {P : Program} {id : Nat} {Q : Exit → Act → World → Prop} {a : Act} {w : World} {l : List Oper} (hm : P.follows .mixedOrders = true) (hB : Region.lexB .any l.toArray = true)
    (h : wpQuiet P l.toArray (fun w' => ∃ p : CalmTo w, w' = p.w) (fun a' => ∀ w', Calm w w' → Q .normal a' w') l a) : (Code.region id l.toArray true).wp P Q a w := by
  refine wp_region_quiet (C := fun w' => ∃ p : CalmTo w, w' = p.w) hm hB ⟨⟨_, (Calm.refl w).drewN 1⟩, rfl⟩ ?_
  have e : (fun a' => ∀ w', (∃ p : CalmTo w, w' = p.w) → Q .normal a' w') = (fun a' => ∀ w', Calm w w' → Q .normal a' w') := by
    funext a'
    simp only [calmTo_iff]
  rw [e]
  simpa using h

/-- A callee's contract, met in a world of the class. -/
theorem calmOf {P : Program} {f : FuncId} {args : Array Value} {w : World} {p : CalmTo w} {v : Value} (h : Calls P f args p.w fun e w' => e = .returned v ∧ Calm p.w w') : Calls P f args p.w fun e w'' => e = .returned v ∧ ∃ q : CalmTo w, w'' = q.w :=
  h.mono fun _ w'' ⟨he, hw⟩ => ⟨he, ⟨w'', p.h.trans hw⟩, rfl⟩
theorem calmOfL {P : Program} {f : FuncId} {args : Array Value} {w : World} {p : CalmTo w} {v : Value} (h : Calls P f args p.w fun e w' => e = .returned v ∧ p.w = w') : Calls P f args p.w fun e w'' => e = .returned v ∧ ∃ q : CalmTo w, w'' = q.w :=
  h.mono fun _ w'' ⟨he, hw⟩ => ⟨he, p, hw.symm⟩
theorem CalmTo.cell {w : World} {b o : Nat} {v : Value} (h : w.cell? ⟨b, o, none⟩ = some v) (hb : b < w.heap.size) (p : CalmTo w) : p.w.cell? ⟨b, o, none⟩ = some v :=
  (p.h.cell (p := ⟨b, o, none⟩) hb).trans h
theorem Calm.at_ {w w' : World} (h : Calm w w') {b o : Nat} {v : Value} (hc : w.cell? ⟨b, o, none⟩ = some v) (hb : b < w.heap.size) : w'.cell? ⟨b, o, none⟩ = some v :=
  (h.cell (p := ⟨b, o, none⟩) hb).trans hc
end Go.Proofs.YtglnkpgfdjnhnaaGreatDoor
