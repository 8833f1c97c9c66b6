/- A region that draws its order, whose operations only read and whose callees may lay blocks: walked once. No program in sight. -/
import Derived.Test.YtabemneoobbnaaaDoorBs
namespace Go.Proofs.YtabemneoobbnaaaDoor
open Go.RowKit

/-- a world behind 'w': what was there is as it was -/
structure LaterOf (w : World) where
  W : World
  hb : Below w.heap.size w W
instance later_inhabited (w : World) : Inhabited (LaterOf w) := ⟨⟨w, Below.refl _ _⟩⟩
theorem wp_region_later {P : Program} {id : Nat} {Q : Exit → Act → World → Prop} {a : Act} {w : World} {l : List Oper} (hm : P.follows .mixedOrders = true) (hB : Region.lexB .any l.toArray = true)
    (h : wpQuiet P l.toArray (fun w' => ∃ p : LaterOf w, w' = p.W) (fun a' => ∀ w', (∃ p : LaterOf w, w' = p.W) → Q .normal a' w') l a) : (Code.region id l.toArray true).wp P Q a w :=
  wp_region_quiet (C := fun w' => ∃ p : LaterOf w, w' = p.W) hm hB ⟨⟨w.drewN 1, below_drewN (Below.refl _ _)⟩, rfl⟩ (by simpa using h)
theorem later_call {P : Program} {f : FuncId} {args : Array Value} {w : World} {v : Value} (p : LaterOf w) (h : Calls P f args p.W (Ret p.W v)) :
    Calls P f args p.W fun e w'' => e = .returned v ∧ ∃ q : LaterOf w, w'' = q.W :=
  h.mono fun _ w' ⟨he, hb⟩ => ⟨he, ⟨w', p.hb.trans (hb.mono p.hb.size)⟩, rfl⟩
theorem LaterOf.cell {w : World} (p : LaterOf w) {a : Addr} {v : Value} (h : w.cell? a = some v) : p.W.cell? a = some v := (p.hb.cell (World.block_lt_of_cell? _ _ h)).trans h

end Go.Proofs.YtabemneoobbnaaaDoor
