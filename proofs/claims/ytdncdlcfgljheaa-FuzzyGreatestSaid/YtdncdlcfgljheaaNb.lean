/- Words for rows of rows: a slice of slices of numbers that is read, and one that grows row by row. No program in sight. -/
import Derived.Test.YtdncdlcfgljheaaDi
import Derived.Test.YtdncdlcfgljheaaAp
import Derived.Test.YtdncdlcfgljheaaPt
import Derived.Test.YtdncdlcfgljheaaFg
namespace Go.Proofs.Ytdncdlcfgljheaa
open Go.RowKit

/-- a slice of slices of numbers -/
def RdN (w : World) (B : Nat) (v : Value) (nq : Nat) (E : Nat → List Nat) : Prop :=
  ∃ f : Nat → Value, Rd w B v nq f ∧ ∀ i, i < nq → Rd w B (f i) (E i).length (natF (E i))
theorem RdN.keep {w w' : World} {B : Nat} {v : Value} {nq : Nat} {E : Nat → List Nat} (h : RdN w B v nq E) (hk : ∀ p : Addr, p.block < B → w'.cell? p = w.cell? p) : RdN w' B v nq E := by
  obtain ⟨f, h1, h2⟩ := h
  exact ⟨f, h1.keep hk, fun i hi => (h2 i hi).keep hk⟩
theorem RdN.more {w : World} {B B' : Nat} {v : Value} {nq : Nat} {E : Nat → List Nat} (h : RdN w B v nq E) (hB : B ≤ B') : RdN w B' v nq E := by
  obtain ⟨f, h1, h2⟩ := h
  exact ⟨f, h1.more hB, fun i hi => (h2 i hi).more hB⟩
theorem RdN.below {w w' : World} {B C : Nat} {v : Value} {nq : Nat} {E : Nat → List Nat} (h : RdN w B v nq E) (hb : Below C w w') (hC : B ≤ C) : RdN w' B v nq E := h.keep fun _ hp => hb.cell (by omega)

/-- the slice lies from block 'A' on -/
def Above (A : Nat) (v : Value) : Prop := ∀ a n c, v = .slice (some a) n c → 0 < n → A ≤ a.block
/-- a slice of slices of numbers in the blocks from 'A' up to 'B' -/
def RdNA (w : World) (A B : Nat) (v : Value) (nq : Nat) (E : Nat → List Nat) : Prop :=
  ∃ f : Nat → Value, (Rd w B v nq f ∧ Above A v) ∧ ∀ i, i < nq → Rd w B (f i) (E i).length (natF (E i)) ∧ Above A (f i)
theorem RdNA.rd {w : World} {A B : Nat} {v : Value} {nq : Nat} {E : Nat → List Nat} (h : RdNA w A B v nq E) : RdN w B v nq E := by
  obtain ⟨f, h1, h2⟩ := h
  exact ⟨f, h1.1, fun i hi => (h2 i hi).1⟩
theorem Rd.keepA {w w' : World} {A B n : Nat} {v : Value} {f : Nat → Value} (h : Rd w B v n f) (ha : Above A v) (hk : ∀ p : Addr, A ≤ p.block → p.block < B → w'.cell? p = w.cell? p) : Rd w' B v n f := by
  obtain ⟨a, c, rfl, h1, h2, h3⟩ := h
  refine ⟨a, c, rfl, h1, h2, fun hp => ?_⟩
  obtain ⟨b, o, rfl, h5, h6⟩ := h3 hp
  exact ⟨b, o, rfl, h5, fun i hi => (hk ⟨b, o + i, none⟩ (ha ⟨b, o, none⟩ _ _ rfl hp) h5).trans (h6 i hi)⟩
theorem RdNA.keep {w w' : World} {A B : Nat} {v : Value} {nq : Nat} {E : Nat → List Nat} (h : RdNA w A B v nq E) (hk : ∀ p : Addr, A ≤ p.block → p.block < B → w'.cell? p = w.cell? p) : RdNA w' A B v nq E := by
  obtain ⟨f, h1, h2⟩ := h
  exact ⟨f, ⟨h1.1.keepA h1.2 hk, h1.2⟩, fun i hi => ⟨(h2 i hi).1.keepA (h2 i hi).2 hk, (h2 i hi).2⟩⟩
theorem above_own {w : World} {base : Nat} {e : TypeId} {size : Nat} {v : Value} {n : Nat} {xs : List Value} (h : w.ownsRow base e size v n xs) {A : Nat} (hA : A ≤ base) : Above A v := by
  intro a n' c hv _
  subst hv
  have := (h.lt a.block rfl).1
  omega

abbrev nums (xs : List Nat) : List Value := xs.map fun x : Nat => Value.int .i64 (x : Int)

/-- The state ahead of row 'k': the rows before it are whole, the others nil. 'G' is the block of the rows. -/
structure Nst (tr te : TypeId) (G nq k : Nat) (E : Nat → List Nat) (f : Nat → Value) (w : World) : Prop where
  row : w.rowIs G tr nq f
  done : ∀ i, i < k → w.ownsRow (G + 1) te 1 (f i) (E i).length (nums (E i))
  rest : ∀ i, k ≤ i → i < nq → f i = .slice none 0 0

/-- The state in row 'k': 'xs' has been gathered, the blocks of the row lie from 'M' on. -/
structure Nin (tr te : TypeId) (G nq k M : Nat) (E : Nat → List Nat) (xs : List Nat) (f : Nat → Value) (w : World) : Prop where
  row : w.rowIs G tr nq f
  done : ∀ i, i < k → w.ownsRow (G + 1) te 1 (f i) (E i).length (nums (E i)) ∧ ∀ b, (f i).ownBlock = some b → b < M
  here : w.ownsRow M te 1 (f k) xs.length (nums xs)
  rest : ∀ i, k < i → i < nq → f i = .slice none 0 0
  low : G < M ∧ M ≤ w.heap.size

section
variable {tr te : TypeId} {G nq k M : Nat} {E : Nat → List Nat} {f : Nat → Value} {w w' : World} {xs : List Nat}
theorem Nst.start {w : World} (h : w.rowIs G tr nq (fun _ => .slice none 0 0)) : Nst tr te G nq 0 E (fun _ => .slice none 0 0) w :=
  ⟨h, fun i hi => absurd hi (by omega), fun _ _ _ => rfl⟩
theorem Nst.inside (h : Nst tr te G nq k E f w) (hk : k < nq) : Nin tr te G nq k w.heap.size E [] f w where
  row := h.row
  done i hi := ⟨h.done i hi, fun b hb => ((h.done i hi).lt b hb).2⟩
  here := by rw [h.rest k (Nat.le_refl _) hk]; exact World.ownsRow_nil _ _ _ _
  rest i hi hq := h.rest i (by omega) hq
  low := ⟨h.row.lt, Nat.le_refl _⟩
theorem Nin.out (h : Nin tr te G nq k M E xs f w) (hx : xs = E k) : Nst tr te G nq (k + 1) E f w where
  row := h.row
  done i hi := by
    by_cases e : i = k
    · subst e; subst hx
      exact own_base h.here (by have := h.low; omega)
    · exact (h.done i (by omega)).1
  rest i hi hq := h.rest i (by omega) hq
/-- everything below the heap's size is as it was -/
theorem Nin.keep (h : Nin tr te G nq k M E xs f w) (hb : Below w.heap.size w w') : Nin tr te G nq k M E xs f w' where
  row := h.row.of_block (hb.block G h.row.lt)
  done i hi := ⟨own_roll (h.done i hi).1 (Roll.of_below hb G) (Nat.le_refl _) (by omega), (h.done i hi).2⟩
  here := own_roll h.here (Roll.of_below hb G) (Nat.le_refl _) h.low.1
  rest := h.rest
  low := ⟨h.low.1, Nat.le_trans h.low.2 hb.size⟩
theorem Nin.drewN (h : Nin tr te G nq k M E xs f w) (n : Nat) : Nin tr te G nq k M E xs f (w.drewN n) := h.keep (below_drewN (Below.refl _ _))
theorem Nin.alloc (h : Nin tr te G nq k M E xs f w) (o : Obj) : Nin tr te G nq k M E xs f (w.alloc o) := h.keep ((Below.refl _ _).alloc (Nat.le_refl _) o)

/-- a number is appended to the row, and the row is stored back -/
theorem Nin.push (h : Nin tr te G nq k M E xs f w) (hk : k < nq) (x g n cap : Nat) (hn : n = xs.length + 1) (hown : w'.ownsRow M te 1 (.slice (some ⟨g, 0, none⟩) n cap) n (nums xs ++ [.int .i64 (x : Int)]))
    (hg : w.grownBy w' (f k).ownBlock) :
    Nin tr te G nq k M E (xs ++ [x]) (fun i => if i = k then .slice (some ⟨g, 0, none⟩) n cap else f i) (w'.setCell ⟨G, k, none⟩ (.slice (some ⟨g, 0, none⟩) n cap)) := by
  have hlow := h.low
  have hne : some G ≠ (f k).ownBlock := fun e => by have := (h.here.lt G e.symm).1; omega
  have hrow : w'.rowIs G tr nq f := h.row.of_block (hg.block G h.row.lt hne)
  have hroll : Roll M G w (w'.setCell ⟨G, k, none⟩ (.slice (some ⟨g, 0, none⟩) n cap)) :=
    ((Roll.refl M G w).grown hg hlow.2 (fun b hb => (h.here.lt b hb).1)).setCell (p := ⟨G, k, none⟩) rfl _
  refine ⟨hrow.set k _, fun i hi => ?_, ?_, fun i hi hq => ?_, ⟨hlow.1, by have := hg.size; simp; omega⟩⟩
  · have hik : i ≠ k := by omega
    obtain ⟨h1, h2⟩ := h.done i hi
    rw [if_neg hik]
    refine ⟨⟨h1.1, ?_⟩, h2⟩
    rcases h1.2 with hn' | ⟨b, cp, cur, hv, hb, hc, rest⟩
    · exact .inl hn'
    · exact .inr ⟨b, cp, cur, hv, hb, (hroll.block b (h2 b (by rw [hv]; rfl)) (by omega)).trans hc, rest⟩
  · rw [if_pos rfl]
    subst hn
    have e1 : nums (xs ++ [x]) = nums xs ++ [.int .i64 (x : Int)] := by simp [nums]
    rw [e1, List.length_append, List.length_singleton]
    refine ⟨hown.1, ?_⟩
    rcases hown.2 with ⟨h0, _⟩ | ⟨b, cp, cur, hv, hb, hc, rest⟩
    · cases h0
    · exact .inr ⟨b, cp, cur, hv, hb, (Below.heap_setCell _ _ _ _ (by show b ≠ G; omega)).trans hc, rest⟩
  · rw [if_neg (by omega)]; exact h.rest i hi hq
theorem Nin.cell (h : Nin tr te G nq k M E xs f w) (hk : k < nq) : w.cell? ⟨G, k, none⟩ = some (f k) := h.row.cell hk
theorem Nin.frozen (h : Nin tr te G nq k M E xs f w) : w.frozen? ⟨G, k, none⟩ = false := h.row.frozen k

theorem Nst.rd (h : Nst tr te G nq nq E f w) (hm : nq ≤ maxLen) {A : Nat} (hA : A ≤ G) : RdNA w A w.heap.size (.slice (some ⟨G, 0, none⟩) nq nq) nq E := by
  refine ⟨f, ⟨⟨_, _, rfl, Nat.le_refl _, hm, fun _ => ⟨G, 0, rfl, h.row.lt, fun i hi => by rw [Nat.zero_add]; exact h.row.cell hi⟩⟩, ?_⟩, fun i hi => ⟨?_, above_own (h.done i hi) (by omega)⟩⟩
  · intro a n c e _
    obtain ⟨e1, _⟩ := Value.slice.inj e
    cases e1
    exact hA
  · exact rd_of_owns (h.done i hi) _ (fun j hj => natF_map _ j hj)
end

end Go.Proofs.Ytdncdlcfgljheaa
