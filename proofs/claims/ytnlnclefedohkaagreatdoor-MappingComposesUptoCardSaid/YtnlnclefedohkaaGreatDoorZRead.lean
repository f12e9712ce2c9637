/-
  How lists of strings, patterns and regions lie in memory: words of reading, kept over worlds that only grow.
-/
import Derived.WalkKit
import Derived.Lib.Hide
import Derived.Deep.Draws
import Derived.Test.YtnlnclefedohkaaGreatDoorZPlain
set_option linter.unusedVariables false
set_option linter.unusedSimpArgs false
namespace Go.Proofs.YtnlnclefedohkaaGreatDoor
open Go.RowKit Sy
def bs (l : List UInt8) : ByteArray:=⟨l.toArray⟩
theorem bs_toList (l : List UInt8) : (bs l).data.toList = l:=by simp [bs]
theorem bs_size (l : List UInt8) : (bs l).size = l.length:=by simp [bs,ByteArray.size]
theorem bs_toL (l : List UInt8) : (bs l).toList = l:=by rw [ByteArray.toList_eq];exact bs_toList l
theorem bs_get (l : List UInt8) (k : Nat) (h : k < (bs l).size) : (bs l)[k]'h = l[k]'(by rw [bs_size] at h;exact h):=by
 show (bs l).data[k]'h = _
 simp [bs]
attribute [go_sem] bs_toL bs_size bs_toList bs_get
theorem bs_eta (s : ByteArray) : bs s.data.toList = s:=by cases s;simp [bs]

theorem ret_bool {a b : Bool} (h : a = b) : Ending.returned (.bool a) = .returned (.bool b):=by rw [h]
theorem ret_int {k : IntKind} {a b : Int} (h : a = b) : Ending.returned (.int k a) = .returned (.int k b):=by rw [h]
theorem ret_str {a b : ByteArray} (h : a = b) : Ending.returned (.string a) = .returned (.string b):=by rw [h]
abbrev Calm (w w' : World) : Prop:=Below w.heap.size w w'

theorem Calm.refl (w : World) : Calm w w:=Below.refl _ _
theorem Calm.trans {a b c : World} (h : Calm a b) (k : Calm b c) : Calm a c:=Below.trans h (Below.mono k h.size)
theorem Calm.drewN {a b : World} (h : Calm a b) (n : Nat) : Calm a (b.drewN n):=⟨h.os,h.tape,h.output,h.size,h.block⟩
theorem Calm.alloc {a b : World} (h : Calm a b) (o : Obj) : Calm a (b.alloc o):=Below.alloc h h.size o
structure StrsR (w : World) (A : Option Addr) (ls : List Str) : Prop where
 len : ls.length ≤ 16384
 each : ∀ l ∈ ls,l.length ≤ 16384
 at_ : 0 < ls.length → ∃ b o,A = some ⟨b,o,none⟩ ∧ b < w.heap.size ∧ ∀ k l,ls[k]? = some l → w.cell? ⟨b,o + k,none⟩ = some (.string (bs l))

theorem StrsR.calm {w w' : World} {A : Option Addr} {ls : List Str} (h : StrsR w A ls) (hc : Calm w w') : StrsR w' A ls:=
 ⟨h.len,h.each,fun h0=>by
  obtain ⟨b,o,rfl,hb,hk⟩:=h.at_ h0
  exact ⟨b,o,rfl,Nat.lt_of_lt_of_le hb hc.size,fun k l hl=>(hc.cell (p:=⟨b,o + k,none⟩) hb).trans (hk k l hl)⟩⟩
structure PatsR (w : World) (A : Option Addr) (ps : List Pat) : Prop where
 len : ps.length ≤ 16384
 at_ : 0 < ps.length → ∃ b o,A = some ⟨b,o,none⟩ ∧ b < w.heap.size ∧ ∀ k p,ps[k]? = some p → ∃ Ak ck,w.cell? ⟨b,o + k * 2,none⟩ = some (.slice Ak p.parts.length ck) ∧ w.cell? ⟨b,o + k * 2 + 1,none⟩ = some (.bool p.rest) ∧ p.parts.length ≤ ck ∧ ck ≤ 9223372036854775807 ∧ StrsR w Ak p.parts

theorem PatsR.calm {w w' : World} {A : Option Addr} {ps : List Pat} (h : PatsR w A ps) (hc : Calm w w') : PatsR w' A ps:=
 ⟨h.len,fun h0=>by
  obtain ⟨b,o,rfl,hb,hk⟩:=h.at_ h0
  refine ⟨b,o,rfl,Nat.lt_of_lt_of_le hb hc.size,fun k p hp=>?_⟩
  obtain ⟨Ak,ck,h1,h2,h3,h5,h4⟩:=hk k p hp
  exact ⟨Ak,ck,(hc.cell (p:=⟨b,o + k * 2,none⟩) hb).trans h1,(hc.cell (p:=⟨b,o + k * 2 + 1,none⟩) hb).trans h2,h3,h5,h4.calm hc⟩⟩
structure StrsG (w : World) (A : Option Addr) (ls : List Str) : Prop where
 len : ls.length ≤ 140737488355328
 each : ∀ l ∈ ls,l.length ≤ 140737488355328
 at_ : 0 < ls.length → ∃ b o,A = some ⟨b,o,none⟩ ∧ b < w.heap.size ∧ ∀ k l,ls[k]? = some l → w.cell? ⟨b,o + k,none⟩ = some (.string (bs l))
theorem StrsG.calm {w w' : World} {A : Option Addr} {ls : List Str} (h : StrsG w A ls) (hc : Calm w w') : StrsG w' A ls:=
 ⟨h.len,h.each,fun h0=>by
  obtain ⟨b,o,rfl,hb,hk⟩:=h.at_ h0
  exact ⟨b,o,rfl,Nat.lt_of_lt_of_le hb hc.size,fun k l hl=>(hc.cell (p:=⟨b,o + k,none⟩) hb).trans (hk k l hl)⟩⟩
theorem StrsG.get {w : World} {A : Option Addr} {ls : List Str} (h : StrsG w A ls) {k : Nat} (hk : k < ls.length) : ∃ b o l,A = some ⟨b,o,none⟩ ∧ b < w.heap.size ∧ ls[k]? = some l ∧ l.length ≤ 140737488355328 ∧ w.cell? ⟨b,o + k,none⟩ = some (.string (bs l)):=by
 obtain ⟨b,o,hA,hb,hc⟩:=h.at_ (by omega)
 exact ⟨b,o,ls[k],hA,hb,List.getElem?_eq_getElem hk,h.each _ (List.getElem_mem hk),hc k _ (List.getElem?_eq_getElem hk)⟩
theorem StrsG.toR {w : World} {A : Option Addr} {ls : List Str} (h : StrsG w A ls) (h1 : ls.length ≤ 16384) (h2 : ∀ l ∈ ls,l.length ≤ 16384) : StrsR w A ls:=⟨h1,h2,h.at_⟩
structure StrsU (w : World) (A : Option Addr) (ls : List Str) : Prop where
 len : ls.length ≤ 1048576
 each : ∀ l ∈ ls,l.length ≤ 1048576
 at_ : 0 < ls.length → ∃ b o,A = some ⟨b,o,none⟩ ∧ b < w.heap.size ∧ ∀ k l,ls[k]? = some l → w.cell? ⟨b,o + k,none⟩ = some (.string (bs l))
theorem StrsU.toG {w : World} {A : Option Addr} {ls : List Str} (h : StrsU w A ls) : StrsG w A ls:=⟨by have:=h.len;omega,fun l hl=>by have:=h.each l hl;omega,h.at_⟩
theorem StrsU.calm {w w' : World} {A : Option Addr} {ls : List Str} (h : StrsU w A ls) (hc : Calm w w') : StrsU w' A ls:=⟨h.len,h.each,(h.toG.calm hc).at_⟩
theorem StrsU.toR {w : World} {A : Option Addr} {ls : List Str} (h : StrsU w A ls) (h1 : ls.length ≤ 16384) (h2 : ∀ l ∈ ls,l.length ≤ 16384) : StrsR w A ls:=⟨h1,h2,h.at_⟩
theorem StrsU.get {w : World} {A : Option Addr} {ls : List Str} (h : StrsU w A ls) {k : Nat} (hk : k < ls.length) : ∃ b o l,A = some ⟨b,o,none⟩ ∧ b < w.heap.size ∧ ls[k]? = some l ∧ l.length ≤ 1048576 ∧ w.cell? ⟨b,o + k,none⟩ = some (.string (bs l)):=by
 obtain ⟨b,o,hA,hb,hc⟩:=h.at_ (by omega)
 exact ⟨b,o,ls[k],hA,hb,List.getElem?_eq_getElem hk,h.each _ (List.getElem_mem hk),hc k _ (List.getElem?_eq_getElem hk)⟩
theorem StrsR.toU {w : World} {A : Option Addr} {ls : List Str} (h : StrsR w A ls) : StrsU w A ls:=⟨by have:=h.len;omega,fun l hl=>by have:=h.each l hl;omega,h.at_⟩
theorem StrsR.toG {w : World} {A : Option Addr} {ls : List Str} (h : StrsR w A ls) : StrsG w A ls:=h.toU.toG

end Go.Proofs.YtnlnclefedohkaaGreatDoor
