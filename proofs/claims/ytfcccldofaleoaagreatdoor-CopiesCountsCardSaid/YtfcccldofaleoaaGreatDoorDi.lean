/- Words for dice: the memory that a roll turns. No program in sight. -/
import Derived.Test.YtfcccldofaleoaaGreatDoorBs
namespace Go.Proofs.YtfcccldofaleoaaGreatDoor
open Go.RowKit

/-- Everything below 'B' but block 'g' is as it was. -/
structure Roll (B g : Nat) (w w' : World) : Prop where
  os : w'.os = w.os
  tape : w'.tape = w.tape
  output : w'.output = w.output
  size : w.heap.size ≤ w'.heap.size
  block : ∀ k, k < B → k ≠ g → w'.heap[k]? = w.heap[k]?

section
variable {B B' g : Nat} {a b c w w' : World}
theorem Roll.refl (B g : Nat) (w : World) : Roll B g w w := ⟨rfl, rfl, rfl, Nat.le_refl _, fun _ _ _ => rfl⟩
theorem Roll.trans (h : Roll B g a b) (k : Roll B g b c) : Roll B g a c :=
  ⟨k.os.trans h.os, k.tape.trans h.tape, k.output.trans h.output, Nat.le_trans h.size k.size, fun i hi hg => (k.block i hi hg).trans (h.block i hi hg)⟩
theorem Roll.mono (h : Roll B g a b) (hB : B' ≤ B) : Roll B' g a b := ⟨h.os, h.tape, h.output, h.size, fun i hi hg => h.block i (by omega) hg⟩
theorem Roll.of_below (h : Below B a b) (g : Nat) : Roll B g a b := ⟨h.os, h.tape, h.output, h.size, fun i hi _ => h.block i hi⟩
theorem Roll.below (h : Roll B g a b) (hg : B' ≤ g) (hB : B' ≤ B) : Below B' a b := ⟨h.os, h.tape, h.output, h.size, fun i hi => h.block i (by omega) (by omega)⟩
theorem Roll.drewN (h : Roll B g a b) (n : Nat) : Roll B g a (b.drewN n) := h.trans ⟨rfl, rfl, rfl, Nat.le_refl _, fun _ _ _ => rfl⟩
theorem Roll.setCell (h : Roll B g a b) {p : Addr} (hp : p.block = g) (v : Value) : Roll B g a (b.setCell p v) :=
  h.trans ⟨rfl, rfl, rfl, by simp, fun k _ hk => Below.heap_setCell b p v k (by rw [hp]; exact hk)⟩
theorem Roll.alloc (h : Roll B g a b) (hB : B ≤ b.heap.size) (o : Obj) : Roll B g a (b.alloc o) :=
  h.trans ⟨rfl, rfl, rfl, by simp, fun k hk _ => Below.heap_alloc b o k (by omega)⟩
theorem Roll.cell (h : Roll B g a b) {p : Addr} (hp : p.block < B) (hg : p.block ≠ g) : b.cell? p = a.cell? p := World.cell?_of_block (h.block _ hp hg)
theorem Roll.frozen (h : Roll B g a b) {p : Addr} (hp : p.block < B) (hg : p.block ≠ g) : b.frozen? p = a.frozen? p := World.frozen?_of_block (h.block _ hp hg)
end

theorem Roll.grown {B g : Nat} {a w w' : World} {row : Option Nat} (h : Roll B g a w) (hg : w.grownBy w' row) (hB : B ≤ w.heap.size) (hr : ∀ k, row = some k → B ≤ k) : Roll B g a w' :=
  h.trans ⟨hg.os, hg.tape, hg.output, hg.size, fun k hk _ => hg.block k (by omega) (fun e => by have := hr k e.symm; omega)⟩
theorem own_roll {w w' : World} {base : Nat} {e : TypeId} {size n B g : Nat} {v : Value} {xs : List Value} (h : w.ownsRow base e size v n xs) (hr : Roll B g w w') (hB : w.heap.size ≤ B) (hg : g < base) : w'.ownsRow base e size v n xs := by
  refine ⟨h.1, ?_⟩
  rcases h.2 with hn | ⟨b, cap, cur, hv, hb, hc, rest⟩
  · exact .inl hn
  · exact .inr ⟨b, cap, cur, hv, hb, (hr.block b (by have := (Array.getElem?_eq_some_iff.1 hc).1; omega) (by omega)).trans hc, rest⟩

/-- Dice in block 'g', of type 't'. -/
def DiceAt (t : TypeId) (w : World) (g : Nat) : Prop :=
  ∃ (a : Option Addr) (n c k : Nat), w.heap[g]? = some (.cells #[.slice a n c, .int .i64 (k : Int)] t (0, 0)) ∧ k ≤ n ∧ n ≤ 300 ∧
    (0 < n → ∃ b o, a = some ⟨b, o, none⟩ ∧ b < g ∧ ∀ i, i < n → ∃ x : Nat, x < 256 ∧ w.cell? ⟨b, o + i, none⟩ = some (.int .u8 (x : Int)))
theorem DiceAt.lt {t : TypeId} {w : World} {g : Nat} (h : DiceAt t w g) : g < w.heap.size := by
  obtain ⟨a, n, c, k, hh, _⟩ := h
  exact (Array.getElem?_eq_some_iff.1 hh).1
theorem DiceAt.keep {t : TypeId} {w w' : World} {g : Nat} (h : DiceAt t w g) (hb : ∀ k, k ≤ g → w'.heap[k]? = w.heap[k]?) : DiceAt t w' g := by
  obtain ⟨a, n, c, k, hh, h1, h2, h3⟩ := h
  refine ⟨a, n, c, k, (hb g (Nat.le_refl _)).trans hh, h1, h2, fun hn => ?_⟩
  obtain ⟨b, o, e, hlt, hc⟩ := h3 hn
  exact ⟨b, o, e, hlt, fun i hi => by
    obtain ⟨x, hx, hcx⟩ := hc i hi
    exact ⟨x, hx, (World.cell?_of_block (hb b (by omega))).trans hcx⟩⟩
theorem DiceAt.below {t : TypeId} {w w' : World} {g B : Nat} (h : DiceAt t w g) (hb : Below B w w') (hB : g < B) : DiceAt t w' g := h.keep fun k hk => hb.block k (by omega)
theorem DiceAt.drewN {t : TypeId} {w : World} {g : Nat} (h : DiceAt t w g) (n : Nat) : DiceAt t (w.drewN n) g := h
theorem DiceAt.alloc {t : TypeId} {w : World} {g : Nat} (h : DiceAt t w g) (o : Obj) : DiceAt t (w.alloc o) g := h.below ((Below.refl _ _).alloc (Nat.le_refl _) o) h.lt
/-- the next seed -/
theorem DiceAt.next {t : TypeId} {w : World} {g : Nat} {a : Option Addr} {n c k : Nat} (hh : w.heap[g]? = some (.cells #[.slice a n c, .int .i64 (k : Int)] t (0, 0))) (h1 : k < n) (h2 : n ≤ 300)
    (h3 : 0 < n → ∃ b o, a = some ⟨b, o, none⟩ ∧ b < g ∧ ∀ i, i < n → ∃ x : Nat, x < 256 ∧ w.cell? ⟨b, o + i, none⟩ = some (.int .u8 (x : Int))) :
    DiceAt t (w.setCell ⟨g, 1, none⟩ (.int .i64 ((k : Int) + 1))) g := by
  refine ⟨a, n, c, k + 1, ?_, h1, h2, fun hn => ?_⟩
  · rw [show (((k + 1 : Nat) : Int)) = (k : Int) + 1 from by omega]
    simp [World.setCell, Array.getElem?_modify, hh]
  · obtain ⟨b, o, e, hlt, hc⟩ := h3 hn
    refine ⟨b, o, e, hlt, fun i hi => ?_⟩
    obtain ⟨x, hx, hcx⟩ := hc i hi
    refine ⟨x, hx, ?_⟩
    rw [World.cell?_setCell_other, hcx]
    intro e2
    injection e2 with e3
    omega

/-- A number below 'N' has been rolled. -/
def Picks (t : TypeId) (w : World) (g : Nat) (N : Int) (e : Ending) (w' : World) : Prop :=
  ∃ m : Nat, e = .returned (.int .i64 (m : Int)) ∧ (m : Int) < N ∧ DiceAt t w' g ∧ Roll w.heap.size g w w' ∧ w'.heap.size = w.heap.size

end Go.Proofs.YtfcccldofaleoaaGreatDoor
