/- Words for a pairing that grows: its struct, its rows. No program in sight. -/
import Derived.Test.YtdncdlcfgljheaaNb
namespace Go.Proofs.Ytdncdlcfgljheaa
open Go.RowKit

def ofV : Option Nat → Value
  | none => .int .i64 (-1)
  | some i => .int .i64 (i : Int)
def boV (T : Nat → Bool) (j : Nat) : Value := .bool (T j)

/-- Where the parts of a pairing lie. -/
structure Pl where
  g : Nat
  o : Nat
  f : Nat
  t : Nat
  A : Nat
  B : Nat
  tp : TypeId
  ti : TypeId
  tb : TypeId
  nq : Nat
  nv : Nat
  nval : Value

/-- the blocks are different, and none of the near ones' -/
structure Pl.Apart (p : Pl) : Prop where
  g : p.g < p.A ∨ p.B ≤ p.g
  o : p.o < p.A ∨ p.B ≤ p.o
  f : p.f < p.A ∨ p.B ≤ p.f
  t : p.t < p.A ∨ p.B ≤ p.t
  go : p.g ≠ p.o
  gf : p.g ≠ p.f
  gt : p.g ≠ p.t
  of_ : p.o ≠ p.f
  ot : p.o ≠ p.t
  ft : p.f ≠ p.t

/-- The pairing in memory: 'f' is the partner of each column, 'F' says which are fixed. -/
structure PgAt (p : Pl) (E : Nat → List Nat) (w : World) (f : Mt.Of) (F : Nat → Bool) : Prop where
  here : w.heap[p.g]? = some (.cells #[p.nval, .slice (some ⟨p.o, 0, none⟩) p.nv p.nv, .slice (some ⟨p.f, 0, none⟩) p.nv p.nv] p.tp (0, 0))
  near : RdNA w p.A p.B p.nval p.nq E
  low : p.B ≤ w.heap.size
  rowO : w.rowIs p.o p.ti p.nv (fun j => ofV (f j))
  rowF : w.rowIs p.f p.tb p.nv (boV F)

/-- Everything but two blocks is as it was. -/
structure Two (a b : Nat) (w w' : World) : Prop where
  os : w'.os = w.os
  tape : w'.tape = w.tape
  output : w'.output = w.output
  size : w'.heap.size = w.heap.size
  block : ∀ k, k ≠ a → k ≠ b → w'.heap[k]? = w.heap[k]?

section
variable {a b : Nat} {u v w w' : World}
theorem Two.refl (a b : Nat) (w : World) : Two a b w w := ⟨rfl, rfl, rfl, rfl, fun _ _ _ => rfl⟩
theorem Two.trans (h : Two a b u v) (k : Two a b v w) : Two a b u w := ⟨k.os.trans h.os, k.tape.trans h.tape, k.output.trans h.output, k.size.trans h.size, fun i h1 h2 => (k.block i h1 h2).trans (h.block i h1 h2)⟩
theorem Two.left (h : Two a b u v) (i : Nat) (x : Value) : Two a b u (v.setCell ⟨a, i, none⟩ x) :=
  h.trans ⟨rfl, rfl, rfl, by simp, fun k h1 _ => Below.heap_setCell _ _ _ _ h1⟩
theorem Two.right (h : Two a b u v) (i : Nat) (x : Value) : Two a b u (v.setCell ⟨b, i, none⟩ x) :=
  h.trans ⟨rfl, rfl, rfl, by simp, fun k _ h2 => Below.heap_setCell _ _ _ _ h2⟩
theorem Two.cell (h : Two a b u v) {p : Addr} (ha : p.block ≠ a) (hb : p.block ≠ b) : v.cell? p = u.cell? p := World.cell?_of_block (h.block _ ha hb)
theorem Two.below (h : Two a b u v) {B : Nat} (ha : B ≤ a) (hb : B ≤ b) : Below B u v := ⟨h.os, h.tape, h.output, by rw [h.size]; exact Nat.le_refl _, fun k hk => h.block k (by omega) (by omega)⟩
end

section
variable {p : Pl} {E : Nat → List Nat} {w w' : World} {f : Mt.Of} {F T : Nat → Bool}
theorem PgAt.near_ (h : PgAt p E w f F) : w.cell? ⟨p.g, 0, none⟩ = some p.nval := by rw [cell_of_row w p.g 0 _ _ _ h.here]; rfl
theorem PgAt.of_ (h : PgAt p E w f F) : w.cell? ⟨p.g, 1, none⟩ = some (.slice (some ⟨p.o, 0, none⟩) p.nv p.nv) := by rw [cell_of_row w p.g 1 _ _ _ h.here]; rfl
theorem PgAt.fixed_ (h : PgAt p E w f F) : w.cell? ⟨p.g, 2, none⟩ = some (.slice (some ⟨p.f, 0, none⟩) p.nv p.nv) := by rw [cell_of_row w p.g 2 _ _ _ h.here]; rfl
/-- a store into the row of the tried -/
theorem PgAt.setT (h : PgAt p E w f F) (ha : p.Apart) (i : Nat) (x : Value) : PgAt p E (w.setCell ⟨p.t, i, none⟩ x) f F where
  here := (Below.heap_setCell _ _ _ _ ha.gt).trans h.here
  near := h.near.keep fun q hq1 hq => World.cell?_setCell_other _ _ _ _ (fun e => by have := ha.t; subst e; simp at hq hq1; omega)
  low := by rw [World.size_setCell]; exact h.low
  rowO := h.rowO.setOther (by exact ha.ot) _
  rowF := h.rowF.setOther (by exact ha.ft) _
/-- a partner is set -/
theorem PgAt.setO (h : PgAt p E w f F) (ha : p.Apart) (j i : Nat) : PgAt p E (w.setCell ⟨p.o, j, none⟩ (.int .i64 (i : Int))) (Mt.upd f j (some i)) F where
  here := (Below.heap_setCell _ _ _ _ ha.go).trans h.here
  near := h.near.keep fun q hq1 hq => World.cell?_setCell_other _ _ _ _ (fun e => by have := ha.o; subst e; simp at hq hq1; omega)
  low := by rw [World.size_setCell]; exact h.low
  rowO := (h.rowO.set j _).congr (fun c hc => by unfold Mt.upd; by_cases e : c = j <;> simp [e, ofV])
  rowF := h.rowF.setOther (by exact fun e => ha.of_ e.symm) _
/-- no partner -/
theorem PgAt.setNone (h : PgAt p E w f F) (ha : p.Apart) (j : Nat) : PgAt p E (w.setCell ⟨p.o, j, none⟩ (.int .i64 (-1))) (Mt.upd f j none) F where
  here := (Below.heap_setCell _ _ _ _ ha.go).trans h.here
  near := h.near.keep fun q hq1 hq => World.cell?_setCell_other _ _ _ _ (fun e => by have := ha.o; subst e; simp at hq hq1; omega)
  low := by rw [World.size_setCell]; exact h.low
  rowO := (h.rowO.set j _).congr (fun c hc => by unfold Mt.upd; by_cases e : c = j <;> simp [e, ofV])
  rowF := h.rowF.setOther (by exact fun e => ha.of_ e.symm) _
/-- a column is fixed, or freed -/
theorem PgAt.setF (h : PgAt p E w f F) (ha : p.Apart) (j : Nat) (x : Bool) : PgAt p E (w.setCell ⟨p.f, j, none⟩ (.bool x)) f (Mt.mark F j x) where
  here := (Below.heap_setCell _ _ _ _ ha.gf).trans h.here
  near := h.near.keep fun q hq1 hq => World.cell?_setCell_other _ _ _ _ (fun e => by have := ha.f; subst e; simp at hq hq1; omega)
  low := by rw [World.size_setCell]; exact h.low
  rowO := h.rowO.setOther (by exact ha.of_) _
  rowF := (h.rowF.set j _).congr (fun c hc => by unfold boV Mt.mark; by_cases e : c = j <;> simp [e])
/-- new memory -/
theorem PgAt.below (h : PgAt p E w f F) (hb : Below w.heap.size w w') : PgAt p E w' f F where
  here := (hb.block _ (by have := (Array.getElem?_eq_some_iff.1 h.here).1; omega)).trans h.here
  near := h.near.keep fun q _ hq => hb.cell (by have := h.low; omega)
  low := Nat.le_trans h.low hb.size
  rowO := h.rowO.of_block (hb.block _ h.rowO.lt)
  rowF := h.rowF.of_block (hb.block _ h.rowF.lt)
theorem rowT_set {w : World} {t tb n : Nat} {T : Nat → Bool} (h : w.rowIs t tb n (boV T)) (j : Nat) : (w.setCell ⟨t, j, none⟩ (.bool true)).rowIs t tb n (boV (Mt.mark T j true)) :=
  (World.rowIs.set h j _).congr (fun c hc => by unfold boV Mt.mark; by_cases e : c = j <;> simp [e])
theorem rowT_cell {w : World} {t tb n : Nat} {T : Nat → Bool} (h : w.rowIs t tb n (boV T)) {j : Nat} (hj : j < n) : w.cell? ⟨t, j, none⟩ = some (.bool (T j)) := World.rowIs.cell h hj
end

/-- how many columns were not tried -/
def unt (n : Nat) (T : Nat → Bool) : Nat := ((List.range n).filter fun c => !T c).length
theorem unt_mark {n : Nat} {T : Nat → Bool} {j : Nat} (hj : j < n) (h : T j = false) : unt n (Mt.mark T j true) + 1 = unt n T := by
  have h1 := Mt.filt_upd n (fun c => !T c) (fun c => !Mt.mark T j true c) j hj (fun c hc => by simp [Mt.mark, hc])
  have e1 : (!T j) = true := by rw [h]; rfl
  have e2 : (!Mt.mark T j true j) = false := by simp [Mt.mark]
  simp only [e1, e2, if_true] at h1
  simpa [unt] using h1
theorem unt_mono {n : Nat} {T T' : Nat → Bool} (h : ∀ c, T c = true → T' c = true) : unt n T' ≤ unt n T := by
  unfold unt
  refine Mt.filter_mono _ _ (fun c hc => ?_) _
  cases e : T c with
  | false => rfl
  | true => rw [h c e] at hc; cases hc
theorem unt_le (n : Nat) (T : Nat → Bool) : unt n T ≤ n := by
  have := List.length_filter_le (fun c => !T c) (List.range n)
  unfold unt; simpa using this

/-- What the search from a row leaves. -/
structure GrowQ (p : Pl) (E : Nat → List Nat) (F : Nat → Bool) (i : Nat) (f : Mt.Of) (T : Nat → Bool) (w : World) (b : Bool) (f' : Mt.Of) (T' : Nat → Bool) (w' : World) : Prop where
  at_ : PgAt p E w' f' F
  tried : w'.rowIs p.t p.tb p.nv (boV T')
  two : Two p.o p.t w w'
  yes : b = true → Mt.Grown ⟨E, F⟩ p.nv f f' i T
  no : b = false → f' = f ∧ Mt.Failed ⟨E, F⟩ f i T T'
  rows : ∀ j x, f' j = some x → x < p.nq
def GrowP (p : Pl) (E : Nat → List Nat) (F : Nat → Bool) (i : Nat) (f : Mt.Of) (T : Nat → Bool) (w : World) (e : Ending) (w' : World) : Prop :=
  ∃ (b : Bool) (f' : Mt.Of) (T' : Nat → Bool), e = .returned (.bool b) ∧ GrowQ p E F i f T w b f' T' w'

end Go.Proofs.Ytdncdlcfgljheaa
