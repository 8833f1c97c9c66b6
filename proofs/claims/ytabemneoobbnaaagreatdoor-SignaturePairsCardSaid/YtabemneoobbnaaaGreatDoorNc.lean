/- A region that draws its order, whose operations only read and whose callees may lay blocks: walked once. No program in sight. Contract of the reference's check of a list of tables, at valid ones. -/
import Derived.Test.YtabemneoobbnaaaGreatDoorBs
import Derived.Test.YtabemneoobbnaaaGreatDoorNa
namespace Go.Proofs.YtabemneoobbnaaaGreatDoor
open Go.RowKit

/-- a world behind 'w': what was there is as it was -/
structure LaterOf (w : World) where
  W : World
  hb : Below w.heap.size w W
instance later_inhabited (w : World) : Inhabited (LaterOf w) := ⟨⟨w, Below.refl _ _⟩⟩
theorem wp_region_later {P : Program} {id : Nat} {Q : Exit → Act → World → Prop} {a : Act} {w : World} {l : List Oper} (hm : P.follows .mixedOrders = true) (hB : Region.lexB .any l.toArray = true)
    (h : wpQuiet P l.toArray (fun w' => ∃ p : LaterOf w, w' = p.W) (fun a' => ∀ w', (∃ p : LaterOf w, w' = p.W) → Q .normal a' w') l a) : (Code.region id l.toArray true).wp P Q a w :=
  wp_region_quiet (C := fun w' => ∃ p : LaterOf w, w' = p.W) hm hB ⟨⟨w.drewN 1, below_drewN (Below.refl _ _)⟩, rfl⟩ (by simpa using h)
theorem later_call {P : Program} {f : FuncId} {args : Array Value} {w : World} {v : Value} (p : LaterOf w) (h : Calls P f args p.W (Ret p.W v)) :
    Calls P f args p.W fun e w'' => e = .returned v ∧ ∃ q : LaterOf w, w'' = q.W :=
  h.mono fun _ w' ⟨he, hb⟩ => ⟨he, ⟨w', p.hb.trans (hb.mono p.hb.size)⟩, rfl⟩
theorem LaterOf.cell {w : World} (p : LaterOf w) {a : Addr} {v : Value} (h : w.cell? a = some v) : p.W.cell? a = some v := (p.hb.cell (World.block_lt_of_cell? _ _ h)).trans h

end Go.Proofs.YtabemneoobbnaaaGreatDoor

namespace Go.Proofs.YtabemneoobbnaaaGreatDoor
open Go.RowKit

def ListV (ts : List Ta) : Prop := ts.length ≤ 1024 ∧ (∀ t ∈ ts, TabV t) ∧ ts.Pairwise (fun a b => a.id < b.id)
theorem listV_of {T c r : Nat} {ts : List Ta} (h : ListOk T c r ts) (hT : T ≤ 1000) (hc : c ≤ 64) (hr : r ≤ 4096) : ListV ts :=
  ⟨by have := h.1; omega, fun t ht => tabV_of (h.2.1 t ht).1 hc hr (h.2.1 t ht).2.1 (by have := (h.2.1 t ht).2.2; omega), h.2.2⟩
theorem ids_up {ts : List Ta} (h : ts.Pairwise (fun a b => a.id < b.id)) {i j : Nat} (hij : i < j) (hj : j < ts.length) : (ts.getD i Ta.z).id < (ts.getD j Ta.z).id := by
  have h1 := List.pairwise_iff_getElem.1 h i j (by omega) hj hij
  simpa [List.getD, hj, show i < ts.length by omega] using h1

end Go.Proofs.YtabemneoobbnaaaGreatDoor
