/- Words for new texts. No program in sight. -/
import Derived.Test.YtfcccldofaleoaaGreatDoorProg
import Derived.Test.YtfcccldofaleoaaGreatDoorSt
namespace Go.Proofs.YtfcccldofaleoaaGreatDoor
open Go.RowKit

/-- a slice of texts -/
def RdS (w : World) (B : Nat) (v : Value) (xs : List ByteArray) : Prop := Rd w B v xs.length (strF xs)
theorem info_str : (Tryz.prog.info? 9).map (fun i => (i.zero, i.size, i.bytes)) = some (some (.string ⟨#[]⟩), 1, 16) := by kernel_rfl

theorem smap_get {xs : List ByteArray} {i : Nat} (h : i < xs.length) : (xs.map Value.string)[i]? = some (.string (xs.getD i ⟨#[]⟩)) := by simp [List.getD, h]
theorem smap_one (xs : List ByteArray) : ∀ u ∈ xs.map Value.string, u.oneCell' = true := by
  intro u hu
  obtain ⟨_, _, rfl⟩ := List.mem_map.1 hu
  rfl
/-- new texts -/
def GivesS (w : World) (xs : List ByteArray) (e : Ending) (w' : World) : Prop :=
  ∃ a c, e = .returned (.slice a xs.length c) ∧ w'.ownsRow w.heap.size 9 1 (.slice a xs.length c) xs.length (xs.map Value.string) ∧ Below w.heap.size w w'
theorem rdS_of_own {w : World} {base : Nat} {v : Value} {xs : List ByteArray} (h : w.ownsRow base 9 1 v xs.length (xs.map Value.string)) : RdS w w.heap.size v xs :=
  rd_of_owns h _ (fun _ hi => smap_get hi)

/-- a row in a block that is as it was -/
theorem own_at {w w' : World} {base : Nat} {e : TypeId} {k n : Nat} {v : Value} {L : List Value} (h : w.ownsRow base e k v n L) (hb : ∀ b, v.ownBlock = some b → w'.heap[b]? = w.heap[b]?) : w'.ownsRow base e k v n L := by
  refine ⟨h.1, ?_⟩
  rcases h.2 with h1 | ⟨g, cap, cur, rfl, h2, h3, rest⟩
  · exact .inl h1
  · exact .inr ⟨g, cap, cur, rfl, h2, (hb g rfl).trans h3, rest⟩
/-- .. behind a call that keeps what was there -/
theorem own_later {w w' : World} {base : Nat} {e : TypeId} {k n : Nat} {v : Value} {L : List Value} (h : w.ownsRow base e k v n L) (hb : Below w.heap.size w w') : w'.ownsRow base e k v n L :=
  own_at h fun b hbb => hb.block b (h.lt b hbb).2
end Go.Proofs.YtfcccldofaleoaaGreatDoor
