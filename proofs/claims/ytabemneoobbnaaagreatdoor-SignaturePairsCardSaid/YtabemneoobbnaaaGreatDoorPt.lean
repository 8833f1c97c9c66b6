/- Plain: the code points of a text, as a range over it gives them; memory words for a loop that appends beside such a range. No program in sight. -/
import Derived.Test.YtabemneoobbnaaaGreatDoorBs
import Derived.Lib.RuneCount
namespace Go.Proofs.YtabemneoobbnaaaGreatDoor
open Go.RowKit

def ptsFrom (s : ByteArray) : Nat → Nat → List Nat
  | 0, _ => []
  | fuel + 1, pos => if pos < s.size then (Utf8.decode s pos).1 :: ptsFrom s fuel (pos + (Utf8.decode s pos).2) else []
def pts (s : ByteArray) : List Nat := ptsFrom s s.size 0

theorem ptsFrom_end (s : ByteArray) (fuel pos : Nat) (h : ¬ pos < s.size) : ptsFrom s fuel pos = [] := by
  cases fuel <;> simp [ptsFrom, h]
theorem ptsFrom_next (s : ByteArray) (fuel pos : Nat) (h : pos < s.size) : ptsFrom s (fuel + 1) pos = (Utf8.decode s pos).1 :: ptsFrom s fuel (pos + (Utf8.decode s pos).2) := by
  rw [ptsFrom, if_pos h]
theorem ptsFrom_length (s : ByteArray) : ∀ fuel pos, (ptsFrom s fuel pos).length = Lib.runeCountFrom s fuel pos
  | 0, _ => rfl
  | f + 1, pos => by
    have ih := ptsFrom_length s f (pos + (Utf8.decode s pos).2)
    unfold ptsFrom Lib.runeCountFrom
    split
    · simp [ih]; omega
    · rfl
theorem pts_length (s : ByteArray) : (pts s).length = Lib.runeCount s := ptsFrom_length s _ _
theorem pts_le (s : ByteArray) : (pts s).length ≤ s.size := by rw [pts_length]; exact Lib.runeCount_le s

theorem own_iterAt {w : World} {base : Nat} {e : TypeId} {size : Nat} {v : Value} {n : Nat} {xs : List Value} (h : w.ownsRow base e size v n xs) {k : Nat} {s : ByteArray} {p : Nat} (hk : w.heap[k]? = some (.stringIter s p)) (p' : Nat) :
    (w.iterAt k s p').ownsRow base e size v n xs := by
  refine ⟨h.1, ?_⟩
  rcases h.2 with hn | ⟨g, cap, cur, hv, hbg, hg, rest⟩
  · exact .inl hn
  · have hkg : g ≠ k := by
      intro e1
      rw [e1, hk] at hg
      cases hg
    exact .inr ⟨g, cap, cur, hv, hbg, (Lib.iterAt_other w k g s p' hkg).trans hg, rest⟩
/-- the iterator behind an append -/
theorem iter_push {w w' : World} {base : Nat} {e : TypeId} {size : Nat} {v : Value} {n : Nat} {xs : List Value} {O : Obj} (h : w.ownsRow base e size v n xs) {k : Nat} {s : ByteArray} {p : Nat} (hk : w.heap[k]? = some (.stringIter s p))
    (hg : (w.alloc O).grownBy w' v.ownBlock) : w'.heap[k]? = some (.stringIter s p) := by
  have hlt : k < w.heap.size := (Array.getElem?_eq_some_iff.1 hk).1
  rw [hg.block k (by simp; omega) ?_, Below.heap_alloc w O k hlt]
  · exact hk
  · intro e1
    rcases h.2 with ⟨rfl, _⟩ | ⟨g, cap, cur, rfl, hbg, hgg, rest⟩
    · simp [Value.ownBlock] at e1
    · simp [Value.ownBlock] at e1
      subst e1
      rw [hk] at hgg
      cases hgg
theorem iter_grown {w w' : World} (k : Nat) (s : ByteArray) (p : Nat) (hk : w.heap[k]? = some (.stringIter s p)) : w.iterPos k = p := iterPos_of hk

/-- A slice in memory that may be new. -/
def Gives (w : World) (n : Nat) (f : Nat → Value) (e : Ending) (w' : World) : Prop :=
  ∃ a c, e = .returned (.slice a n c) ∧ Rd w' w'.heap.size (.slice a n c) n f ∧ Below w.heap.size w w'

theorem natF_map (xs : List Nat) (i : Nat) (h : i < xs.length) : (xs.map fun x : Nat => Value.int .i64 (x : Int))[i]? = some (natF xs i) := by
  simp [natF, List.getD, h]
theorem gives_of {w w1 : World} {n base : Nat} {v : Value} {e : TypeId} {xs : List Nat} (hown : w1.ownsRow base e 1 v n (xs.map fun x : Nat => Value.int .i64 (x : Int))) (hb : Below w.heap.size w w1) :
    Gives w xs.length (natF xs) (.returned v) w1 := by
  have hl := hown.1
  simp only [List.length_map, Nat.mul_one] at hl
  subst hl
  obtain ⟨a, c, rfl⟩ := own_slice hown
  exact ⟨a, c, rfl, rd_of_owns hown _ (fun i hi => natF_map xs i hi), hb⟩
theorem nmap_snoc (zs : List Nat) (x : Nat) : (zs.map fun x : Nat => Value.int .i64 (x : Int)) ++ [.int .i64 (x : Int)] = (zs ++ [x]).map fun x : Nat => Value.int .i64 (x : Int) := by simp

end Go.Proofs.YtabemneoobbnaaaGreatDoor
