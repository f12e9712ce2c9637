/- What the functions on mappings hand back: entries and regions of the call's own. -/
import Derived.Test.YtmfjppaeddbdaaaGreatDoorZMapR
import Derived.Test.YtmfjppaeddbdaaaGreatDoorZPutA
import Derived.Test.YtmfjppaeddbdaaaGreatDoorZMapA
set_option linter.unusedVariables false
set_option linter.unusedSimpArgs false
namespace Go.Proofs.YtmfjppaeddbdaaaGreatDoor.Sy

end Go.Proofs.YtmfjppaeddbdaaaGreatDoor.Sy
set_option linter.unusedVariables false
set_option linter.unusedSimpArgs false
namespace Go.Proofs.YtmfjppaeddbdaaaGreatDoor.Sy

end Go.Proofs.YtmfjppaeddbdaaaGreatDoor.Sy
set_option linter.unusedVariables false
set_option linter.unusedSimpArgs false
namespace Go.Proofs.YtmfjppaeddbdaaaGreatDoor.Sy

end Go.Proofs.YtmfjppaeddbdaaaGreatDoor.Sy
set_option linter.unusedVariables false
set_option linter.unusedSimpArgs false
namespace Go.Proofs.YtmfjppaeddbdaaaGreatDoor
open Go Go.RowKit Sy
def EntOut (es : List Ent) (er : Int) (B : Nat) (e : Ending) (w' : World) : Prop := ∃ A c, e = .returned (.tuple #[.slice A es.length c, .int .i64 er]) ∧ es.length ≤ c ∧ c ≤ 9223372036854775807 ∧ ∃ zs : List NewE, zs.map (·.e) = es ∧ ReadX encE 5 w' A zs ∧ ∀ z ∈ zs, EntN w' B z
theorem entOut_err (er : Int) (B : Nat) (w' : World) : EntOut [] er B (.returned (.tuple #[.slice none 0 0, .int .i64 er])) w' := ⟨none, 0, rfl, Nat.le_refl _, by omega, [], rfl, fun h => absurd rfl h, fun z hz => by cases hz⟩
theorem ResE.out {w0 : World} {es : List Ent} {e : Ending} {w' : World} (h : ResE w0 es e w') : EntOut (if 32 < es.length then [] else es) (if 32 < es.length then 72 else 0) w0.heap.size e w' := by
  unfold ResE at h
  split at h
  · rename_i h1
    rw [if_pos h1, if_pos h1, h]
    exact entOut_err _ _ _
  · rename_i h1
    rw [if_neg h1, if_neg h1]
    exact h
theorem PatsR.toU {w : World} {A : Option Addr} {ps : List Pat} (h : PatsR w A ps) : PatsU w A ps :=
  ⟨by have := h.len; omega, fun h0 => by
    obtain ⟨b, o, hA, hb, hk⟩ := h.at_ h0
    refine ⟨b, o, hA, hb, fun k p hp => ?_⟩
    obtain ⟨Ak, ck, g1, g2, g3, g4, g5⟩ := hk k p hp
    exact ⟨Ak, ck, g1, g2, g3, g4, g5.toU⟩⟩
theorem EntN.toA {w : World} {B : Nat} {z : NewE} (h : EntN w B z) : EntA w z :=
  ⟨h.l.a.r.toU, h.r.a.r.toU, PatsR.toU (h.h.reads h.few), h.l.a.room, h.r.a.room, h.h.room, h.l.a.cap, h.r.a.cap, h.h.cap⟩
theorem entsA_of {w : World} {A : Option Addr} {es : List Ent} {zs : List NewE} {B : Nat} (h1 : zs.map (·.e) = es) (h2 : ReadX encE 5 w A zs) (h3 : ∀ z ∈ zs, EntN w B z) (hl : es.length ≤ 1048576) : EntsA w A es := ⟨hl, zs, h1, h2, fun z hz => (h3 z hz).toA⟩
theorem colA_new {w0 w : World} (hc : Calm w0 w) : ColA w0 (w.alloc (.cells #[.slice none 0 0, .bool false] 66)) w.heap.size [] := .inl ⟨_, _, ColE.new hc, rfl, Nat.zero_le _⟩
theorem PutEnd.some {w0 w' : World} {G : Nat} {es : List Ent} {n : Rule} {ps : List Pat} {e : Ending} {o : Option Ent} (h : PutEnd w0 w' G es n ps e) (ho : putH n ps = some o) : e = .returned (.int .i64 0) ∧ ColA w0 w' G (es ++ o.toList) := by
  unfold PutEnd at h
  rw [ho] at h
  cases o with
  | none => exact ⟨h.1, by simpa using h.2⟩
  | some x => exact h
theorem PutEnd.none {w0 w' : World} {G : Nat} {es : List Ent} {n : Rule} {ps : List Pat} {e : Ending} (h : PutEnd w0 w' G es n ps e) (ho : putH n ps = none) : e = .returned (.int .i64 72) ∧ ColA w0 w' G es := by
  unfold PutEnd at h
  rw [ho] at h
  exact h
theorem take_filterMap {α β : Type} {f : α → Option β} {l : List α} {k : Nat} {x : α} (h : l[k]? = some x) : (l.take (k + 1)).filterMap f = (l.take k).filterMap f ++ (f x).toList := by
  rw [take_snoc h, List.filterMap_append]
  rfl
end Go.Proofs.YtmfjppaeddbdaaaGreatDoor
