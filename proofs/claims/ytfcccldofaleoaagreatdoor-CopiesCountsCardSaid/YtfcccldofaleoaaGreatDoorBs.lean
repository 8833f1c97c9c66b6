/- Words for memory: a slice that is read, what a call keeps. No program in sight. -/
import Derived.WalkKit
import Derived.WalkSpells
import Derived.WalkLawsBesides
import Derived.WalkSmall
import Derived.BigRegion
import Derived.BigQuiet
import Derived.Deep.QuietTactic
import Derived.Deep.RegionHeld3
import Derived.Deep.LoopGhost
import Derived.Deep.OwnRows
import Derived.Lib.OthersKept
import Derived.Handy
namespace Go.Proofs.YtfcccldofaleoaaGreatDoor
open Go.RowKit

theorem hid {p : Prop} (h : p) : Hid p := h

/-- A read-only call. -/
def Quiet (w : World) (v : Value) (e : Ending) (w' : World) : Prop := e = .returned v ∧ ∃ k, w' = w.drewN k
/-- It returns 'v' and leaves what was there. -/
def Ret (w : World) (v : Value) (e : Ending) (w' : World) : Prop := e = .returned v ∧ Below w.heap.size w w'
theorem below_drewN {B n : Nat} {a w : World} (h : Below B a w) : Below B a (w.drewN n) := ⟨h.os, h.tape, h.output, h.size, h.block⟩
theorem Quiet.ret {w : World} {v : Value} {e : Ending} {w' : World} (h : Quiet w v e w') : Ret w v e w' := by
  obtain ⟨he, k, rfl⟩ := h
  exact ⟨he, below_drewN (Below.refl _ _)⟩

theorem bcell {B : Nat} {W w1 : World} (hb : Below B W w1) : (∀ b o, b < B → w1.cell? ⟨b, o, none⟩ = W.cell? ⟨b, o, none⟩) ∧ (∀ b o, b < B → w1.frozen? ⟨b, o, none⟩ = W.frozen? ⟨b, o, none⟩) :=
  ⟨fun b o h => hb.cell (p := ⟨b, o, none⟩) h, fun b o h => hb.frozen (p := ⟨b, o, none⟩) h⟩
theorem frozen_later {w wx : World} {a : Addr} {v : Value} (hb : Below w.heap.size w wx) (hc : w.cell? a = some v) (h : w.frozen? a = false) : wx.frozen? a = false :=
  (hb.frozen (World.block_lt_of_cell? _ _ hc)).trans h
theorem ret_int {k : IntKind} {a b : Int} (h : a = b) : Ending.returned (.int k a) = .returned (.int k b) := by rw [h]
theorem ret_bool {a b : Bool} (h : a = b) : Ending.returned (.bool a) = .returned (.bool b) := by rw [h]
theorem ret_of {a b : Value} (h : a = b) : Ending.returned a = .returned b := by rw [h]

/-- 'v' is a slice of 'n' elements of one cell; the i-th holds 'f i'; it lies below block 'B'. -/
def Rd (w : World) (B : Nat) (v : Value) (n : Nat) (f : Nat → Value) : Prop :=
  ∃ a c, v = .slice a n c ∧ n ≤ c ∧ c ≤ maxLen ∧ (0 < n → ∃ b o, a = some ⟨b, o, none⟩ ∧ b < B ∧ ∀ i, i < n → w.cell? ⟨b, o + i, none⟩ = some (f i))
/-- the same with elements of two cells -/
def Rd2 (w : World) (B : Nat) (v : Value) (n : Nat) (f g : Nat → Value) : Prop :=
  ∃ a c, v = .slice a n c ∧ n ≤ c ∧ c ≤ maxLen ∧ (0 < n → ∃ b o, a = some ⟨b, o, none⟩ ∧ b < B ∧ ∀ i, i < n → w.cell? ⟨b, o + i * 2, none⟩ = some (f i) ∧ w.cell? ⟨b, o + i * 2 + 1, none⟩ = some (g i))

section
variable {w w' : World} {B B' n : Nat} {v : Value} {f g : Nat → Value}
theorem Rd.keep (h : Rd w B v n f) (hk : ∀ p : Addr, p.block < B → w'.cell? p = w.cell? p) : Rd w' B v n f := by
  obtain ⟨a, c, e, h1, h2, h3⟩ := h
  refine ⟨a, c, e, h1, h2, fun hp => ?_⟩
  obtain ⟨b, o, e1, h5, h6⟩ := h3 hp
  exact ⟨b, o, e1, h5, fun i hi => (hk _ h5).trans (h6 i hi)⟩
theorem Rd.more (h : Rd w B v n f) (hB : B ≤ B') : Rd w B' v n f := by
  obtain ⟨a, c, e, h1, h2, h3⟩ := h
  refine ⟨a, c, e, h1, h2, fun hp => ?_⟩
  obtain ⟨b, o, e1, h5, h6⟩ := h3 hp
  exact ⟨b, o, e1, by omega, h6⟩
theorem Rd.below (h : Rd w B v n f) {C : Nat} (hb : Below C w w') (hC : B ≤ C) : Rd w' B v n f := h.keep fun _ hp => hb.cell (by omega)
theorem Rd.drewN (h : Rd w B v n f) (k : Nat) : Rd (w.drewN k) B v n f := h
theorem Rd.nil : Rd w B (.slice none 0 0) 0 f := ⟨none, 0, rfl, Nat.le_refl _, by simp [maxLen], fun h => absurd h (by omega)⟩
theorem Rd.congr (h : Rd w B v n f) (e : ∀ i, i < n → f i = g i) : Rd w B v n g := by
  obtain ⟨a, c, e1, h1, h2, h3⟩ := h
  refine ⟨a, c, e1, h1, h2, fun hp => ?_⟩
  obtain ⟨b, o, e2, h5, h6⟩ := h3 hp
  exact ⟨b, o, e2, h5, fun i hi => by rw [← e i hi]; exact h6 i hi⟩
theorem Rd2.keep (h : Rd2 w B v n f g) (hk : ∀ p : Addr, p.block < B → w'.cell? p = w.cell? p) : Rd2 w' B v n f g := by
  obtain ⟨a, c, e, h1, h2, h3⟩ := h
  refine ⟨a, c, e, h1, h2, fun hp => ?_⟩
  obtain ⟨b, o, e1, h5, h6⟩ := h3 hp
  exact ⟨b, o, e1, h5, fun i hi => ⟨(hk _ h5).trans (h6 i hi).1, (hk _ h5).trans (h6 i hi).2⟩⟩
theorem Rd2.more (h : Rd2 w B v n f g) (hB : B ≤ B') : Rd2 w B' v n f g := by
  obtain ⟨a, c, e, h1, h2, h3⟩ := h
  refine ⟨a, c, e, h1, h2, fun hp => ?_⟩
  obtain ⟨b, o, e1, h5, h6⟩ := h3 hp
  exact ⟨b, o, e1, by omega, h6⟩
theorem Rd2.below (h : Rd2 w B v n f g) {C : Nat} (hb : Below C w w') (hC : B ≤ C) : Rd2 w' B v n f g := h.keep fun _ hp => hb.cell (by omega)
theorem Rd2.nil : Rd2 w B (.slice none 0 0) 0 f g := ⟨none, 0, rfl, Nat.le_refl _, by simp [maxLen], fun h => absurd h (by omega)⟩
end

/-- What the call owns, read. -/
theorem rd_of_owns {w : World} {base : Nat} {e : TypeId} {v : Value} {n : Nat} {xs : List Value} (h : w.ownsRow base e 1 v n xs) (f : Nat → Value) (hf : ∀ i, i < n → xs[i]? = some (f i)) :
    Rd w w.heap.size v n f := by
  obtain ⟨hl, h⟩ := h
  rcases h with ⟨rfl, rfl⟩ | ⟨g, cap, cur, rfl, hb, hg, hn, hm, hs, ht⟩
  · exact Rd.nil
  · refine ⟨_, _, rfl, hn, hm, fun hp => ⟨g, 0, rfl, (Array.getElem?_eq_some_iff.1 hg).1, fun i hi => ?_⟩⟩
    rw [Nat.zero_add, cell_of_row w g i cur e (0, 0) hg]
    have h1 := hf i hi
    rw [← ht, List.getElem?_take, if_pos (by omega)] at h1
    simpa using h1
theorem rd2_of_owns {w : World} {base : Nat} {e : TypeId} {v : Value} {n : Nat} {xs : List Value} (h : w.ownsRow base e 2 v n xs) (f g : Nat → Value) (hf : ∀ i, i < n → xs[i * 2]? = some (f i) ∧ xs[i * 2 + 1]? = some (g i)) :
    Rd2 w w.heap.size v n f g := by
  obtain ⟨hl, h⟩ := h
  rcases h with ⟨rfl, rfl⟩ | ⟨b, cap, cur, rfl, hb, hg, hn, hm, hs, ht⟩
  · exact Rd2.nil
  · refine ⟨_, _, rfl, hn, hm, fun hp => ⟨b, 0, rfl, (Array.getElem?_eq_some_iff.1 hg).1, fun i hi => ?_⟩⟩
    rw [Nat.zero_add, cell_of_row w b _ cur e (0, 0) hg, cell_of_row w b _ cur e (0, 0) hg]
    obtain ⟨h1, h2⟩ := hf i hi
    rw [← ht, List.getElem?_take, if_pos (by omega)] at h1 h2
    exact ⟨by simpa using h1, by simpa using h2⟩

theorem push_below {B e size n : Nat} {w wr w' : World} {o : Value} {O : Obj} {xs : List Value} (h : Below B w wr) (hB : B ≤ wr.heap.size) (hown : wr.ownsRow B e size o n xs)
    (hg : (wr.alloc O).grownBy w' o.ownBlock) : Below B w w' :=
  (h.alloc hB O).grown hg (by simp; omega) (fun k hk => (hown.lt k hk).1)
theorem own_slice {w : World} {base : Nat} {e : TypeId} {size : Nat} {v : Value} {n : Nat} {xs : List Value} (h : w.ownsRow base e size v n xs) : ∃ a c, v = .slice a n c := by
  rcases h.2 with ⟨rfl, rfl⟩ | ⟨g, cap, cur, rfl, _⟩
  · exact ⟨_, _, rfl⟩
  · exact ⟨_, _, rfl⟩

def strF (xs : List ByteArray) (i : Nat) : Value := .string (xs.getD i ⟨#[]⟩)
def intF (xs : List Int) (i : Nat) : Value := .int .i64 (xs.getD i 0)
def natF (xs : List Nat) (i : Nat) : Value := .int .i64 ((xs.getD i 0 : Nat) : Int)

end Go.Proofs.YtfcccldofaleoaaGreatDoor
