/- Plain: the distance of two lists of numbers, by their beginnings. No program in sight. -/
import Derived.WalkKit
namespace Go.Proofs.Ytdncdlcfgljheaa
namespace Lv

/-- the distance of the first i of x and the first j of y -/
def dist (x y : List Nat) : Nat → Nat → Nat
  | 0, j => j
  | i + 1, 0 => i + 1
  | i + 1, j + 1 => min (dist x y i j + if x.getD i 0 = y.getD j 0 then 0 else 1) (min (dist x y i (j + 1) + 1) (dist x y (i + 1) j + 1))

theorem dist_zero (x y : List Nat) (j : Nat) : dist x y 0 j = j := by unfold dist; rfl
theorem dist_left (x y : List Nat) (i : Nat) : dist x y i 0 = i := by cases i <;> (unfold dist; rfl)
theorem dist_succ (x y : List Nat) (i j : Nat) :
    dist x y (i + 1) (j + 1) = min (dist x y i j + if x.getD i 0 = y.getD j 0 then 0 else 1) (min (dist x y i (j + 1) + 1) (dist x y (i + 1) j + 1)) := by
  rw [dist]

theorem dist_comm (x y : List Nat) : ∀ i j, dist x y i j = dist y x j i := by
  intro i
  induction i with
  | zero => intro j; rw [dist_zero, dist_left]
  | succ i ih =>
    intro j
    induction j with
    | zero => rw [dist_left, dist_zero]
    | succ j ihj =>
      rw [dist_succ, dist_succ, ih j, ih (j + 1), ihj]
      have e : (x.getD i 0 = y.getD j 0) = (y.getD j 0 = x.getD i 0) := propext ⟨Eq.symm, Eq.symm⟩
      simp only [e]
      omega

theorem dist_le (x y : List Nat) : ∀ i j, dist x y i j ≤ i + j := by
  intro i
  induction i with
  | zero => intro j; rw [dist_zero]; omega
  | succ i ih =>
    intro j
    cases j with
    | zero => rw [dist_left]; omega
    | succ j =>
      rw [dist_succ]
      have := ih (j + 1)
      omega

theorem dist_ge (x y : List Nat) : ∀ i j, i ≤ dist x y i j + j ∧ j ≤ dist x y i j + i := by
  intro i
  induction i with
  | zero => intro j; rw [dist_zero]; omega
  | succ i ih =>
    intro j
    induction j with
    | zero => rw [dist_left]; omega
    | succ j ihj =>
      rw [dist_succ]
      have h1 := ih j
      have h2 := ih (j + 1)
      split <;> omega

/-- the distance of two lists -/
def lev (x y : List Nat) : Nat := dist x y x.length y.length
theorem lev_comm (x y : List Nat) : lev x y = lev y x := dist_comm x y _ _

/-- the row of the table behind some rounds: before column j the new one, from j on the old one -/
def mix (x y : List Nat) (i j k : Nat) : Nat := if k ≤ j then dist x y (i + 1) k else dist x y i k
theorem mix_start (x y : List Nat) (i k : Nat) : mix x y i 0 k = if k = 0 then i + 1 else dist x y i k := by
  unfold mix
  by_cases h : k = 0
  · subst h; rw [if_pos (by omega), dist_left]; simp
  · rw [if_neg (by omega), if_neg h]
theorem mix_end (x y : List Nat) (i k m : Nat) (h : k ≤ m) : mix x y i m k = dist x y (i + 1) k := by
  unfold mix; rw [if_pos h]
theorem mix_step (x y : List Nat) (i j k : Nat) : mix x y i (j + 1) k = if k = j + 1 then dist x y (i + 1) (j + 1) else mix x y i j k := by
  unfold mix
  by_cases h : k = j + 1
  · subst h; rw [if_pos (Nat.le_refl _), if_pos rfl]
  · rw [if_neg h]
    by_cases h2 : k ≤ j
    · rw [if_pos (by omega), if_pos h2]
    · rw [if_neg (by omega), if_neg h2]

end Lv
end Go.Proofs.Ytdncdlcfgljheaa
