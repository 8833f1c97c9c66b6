/- The trial of all pairings: what it computes. -/
import Derived.Deep.RegionLawGrows
import Derived.Deep.Cut
import Derived.Deep.CutRange
import Derived.Deep.DeepCutAuto
import Derived.Test.YtdncdlcfgljheaaTr
import Derived.Test.YtdncdlcfgljheaaPq
namespace Go.Proofs.Ytdncdlcfgljheaa
open Go.RowKit

/-- what is the first of the greatest among 'b' and all that goes on from 'P' -/
def tried (S : Nat → Nat → Bool) (nv n i : Nat) (F : Nat → Bool) (P b : List (Nat × Nat)) : List (Nat × Nat) := (([] :: Mt.rest S nv n i F).map (P ++ ·)).foldl Mt.pick b
/-- the rows from 'i' on, 'n' of them -/
def triedR (S : Nat → Nat → Bool) (nv n i : Nat) (F : Nat → Bool) (P b : List (Nat × Nat)) : List (Nat × Nat) := ((Mt.rest S nv n i F).map (P ++ ·)).foldl Mt.pick b
/-- row 'i' from column 'j' on, and 'n' rows behind it -/
def triedC (S : Nat → Nat → Bool) (nv n i j : Nat) (F : Nat → Bool) (P b : List (Nat × Nat)) : List (Nat × Nat) :=
  (((List.range' j (nv - j)).flatMap (Mt.rowX S nv n i F) ++ Mt.rest S nv n (i + 1) F).map (P ++ ·)).foldl Mt.pick b

theorem tried_start (S : Nat → Nat → Bool) (nv n i : Nat) (F : Nat → Bool) (P b : List (Nat × Nat)) : tried S nv n i F P b = triedR S nv n i F P (Mt.pick b P) := by
  unfold tried triedR
  rw [List.map_cons, List.foldl_cons, List.append_nil]
theorem triedR_zero (S : Nat → Nat → Bool) (nv i : Nat) (F : Nat → Bool) (P b : List (Nat × Nat)) : triedR S nv 0 i F P b = b := rfl
theorem triedR_succ (S : Nat → Nat → Bool) (nv n i : Nat) (F : Nat → Bool) (P b : List (Nat × Nat)) : triedR S nv (n + 1) i F P b = triedC S nv n i 0 F P b := by
  unfold triedR triedC
  rw [Mt.rest_succ, Nat.sub_zero, List.range_eq_range']
theorem triedC_end (S : Nat → Nat → Bool) (nv n i : Nat) (F : Nat → Bool) (P b : List (Nat × Nat)) : triedC S nv n i nv F P b = triedR S nv n (i + 1) F P b := by
  unfold triedC triedR
  rw [Nat.sub_self]
  simp
theorem triedC_step (S : Nat → Nat → Bool) (nv n i j : Nat) (F : Nat → Bool) (P b : List (Nat × Nat)) (hj : j < nv) :
    triedC S nv n i j F P b = triedC S nv n i (j + 1) F P (if (!F j && S i j) = true then tried S nv n (i + 1) (Mt.mark F j true) (P ++ [(i, j)]) b else b) := by
  unfold triedC
  rw [show nv - j = (nv - (j + 1)) + 1 by omega, List.range'_succ, List.flatMap_cons, List.append_assoc, List.map_append, List.foldl_append]
  congr 1
  unfold Mt.rowX
  split
  · unfold tried
    rw [List.map_map]
    congr 1
    apply List.map_congr_left
    intro x _
    simp
  · rfl
/-- the columns that pairs have -/
def Chosen (P : List (Nat × Nat)) (F : Nat → Bool) : Prop := ∀ j, F j = true ↔ ∃ p ∈ P, p.2 = j
theorem Chosen.mark {P : List (Nat × Nat)} {F : Nat → Bool} (h : Chosen P F) (k j : Nat) : Chosen (P ++ [(k, j)]) (Mt.mark F j true) := by
  intro x
  unfold Mt.mark
  by_cases hx : x = j
  · subst hx
    simp
  · rw [if_neg hx, h x]
    constructor
    · rintro ⟨p, hp, e⟩; exact ⟨p, by simp [hp], e⟩
    · rintro ⟨p, hp, e⟩
      rcases List.mem_append.1 hp with hp | hp
      · exact ⟨p, hp, e⟩
      · simp at hp; subst hp; exact absurd e.symm hx

end Go.Proofs.Ytdncdlcfgljheaa
