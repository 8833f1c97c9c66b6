/- Contracts of the classes of code points, the program's and the reference's. -/
import Derived.Test.YtdncdlcfgljheaaDoorPn
import Derived.Test.YtdncdlcfgljheaaDoorFo
namespace Go.Proofs.YtdncdlcfgljheaaDoor
open Go.RowKit

theorem clsN_cases (c : Nat) : (48 ≤ c ∧ c ≤ 57 ∧ clsN c = 57) ∨ (65 ≤ c ∧ c ≤ 90 ∧ clsN c = 65) ∨ (97 ≤ c ∧ c ≤ 122 ∧ clsN c = 97) ∨ (128 ≤ c ∧ clsN c = 117) ∨ (c < 48 ∧ clsN c = c ∧ runC c = false) ∨ (57 < c ∧ c < 65 ∧ clsN c = c ∧ runC c = false) ∨ (90 < c ∧ c < 97 ∧ clsN c = c ∧ runC c = false) ∨ (122 < c ∧ c < 128 ∧ clsN c = c ∧ runC c = false) := by
  have hr : ∀ k : Nat, k ≠ 57 → k ≠ 65 → k ≠ 97 → k ≠ 117 → runC k = false := fun k h1 h2 h3 h4 => by simp [runC, h1, h2, h3, h4]
  unfold clsN
  by_cases h1 : 48 ≤ c ∧ c ≤ 57
  · left; rw [if_pos h1]; exact ⟨h1.1, h1.2, rfl⟩
  rw [if_neg h1]
  by_cases h2 : 65 ≤ c ∧ c ≤ 90
  · right; left; rw [if_pos h2]; exact ⟨h2.1, h2.2, rfl⟩
  rw [if_neg h2]
  by_cases h3 : 97 ≤ c ∧ c ≤ 122
  · right; right; left; rw [if_pos h3]; exact ⟨h3.1, h3.2, rfl⟩
  rw [if_neg h3]
  by_cases h4 : 128 ≤ c
  · right; right; right; left; rw [if_pos h4]; exact ⟨h4, rfl⟩
  rw [if_neg h4]
  have := hr c (by omega) (by omega) (by omega) (by omega)
  by_cases h5 : c < 48
  · exact .inr (.inr (.inr (.inr (.inl ⟨h5, rfl, this⟩))))
  · by_cases h6 : c < 65
    · exact .inr (.inr (.inr (.inr (.inr (.inl ⟨by omega, h6, rfl, this⟩)))))
    · by_cases h7 : c < 97
      · exact .inr (.inr (.inr (.inr (.inr (.inr (.inl ⟨by omega, h7, rfl, this⟩))))))
      · exact .inr (.inr (.inr (.inr (.inr (.inr (.inr ⟨by omega, by omega, rfl, this⟩))))))

set_option maxRecDepth 100000 in
set_option maxHeartbeats 1000000 in
theorem text_class (c : Nat) (hc : c < 1114112) (w : World) : Calls Tryd.prog 73 #[.int .i32 (c : Int)] w (fun e w' => e = .returned (.tuple #[.int .i32 ((clsN c : Nat) : Int), .bool (runC (clsN c))]) ∧ w = w') := by
  rcases clsN_cases c with ⟨h1, h2, h3⟩ | ⟨h1, h2, h3⟩ | ⟨h1, h2, h3⟩ | ⟨h1, h3⟩ | ⟨h1, h3, h4⟩ | ⟨h1, h2, h3, h4⟩ | ⟨h1, h2, h3, h4⟩ | ⟨h1, h2, h3, h4⟩
  · rw [h3]
    go_enter Tryd.func73, Tryd.ntmps73
    go_wp2
    go_ret2
    exact ⟨rfl, rfl⟩
  · rw [h3]
    clear h3
    have h0 : ¬ (c : Int) ≤ 57 := by omega
    go_enter Tryd.func73, Tryd.ntmps73
    go_wp2
    go_ret2
    exact ⟨rfl, rfl⟩
  · rw [h3]
    go_enter Tryd.func73, Tryd.ntmps73
    go_wp2
    go_ret2
    exact ⟨rfl, rfl⟩
  · rw [h3]
    go_enter Tryd.func73, Tryd.ntmps73
    go_wp2
    go_ret2
    exact ⟨rfl, rfl⟩
  all_goals
    rw [h3, h4]
    go_enter Tryd.func73, Tryd.ntmps73
    go_wp2
    go_ret2
    exact ⟨rfl, rfl⟩

set_option maxRecDepth 100000 in
set_option maxHeartbeats 1000000 in
theorem ref_class (c : Nat) (hc : c < 1114112) (w : World) : Calls Tryd.prog 52 #[.int .i32 (c : Int)] w (fun e w' => e = .returned (.int .i32 ((clsN c : Nat) : Int)) ∧ w = w') := by
  rcases clsN_cases c with ⟨h1, h2, h3⟩ | ⟨h1, h2, h3⟩ | ⟨h1, h2, h3⟩ | ⟨h1, h3⟩ | ⟨h1, h3, -⟩ | ⟨h1, h2, h3, -⟩ | ⟨h1, h2, h3, -⟩ | ⟨h1, h2, h3, -⟩
  all_goals
    rw [h3]
    go_enter Tryd.func52, Tryd.ntmps52
    go_wp2
    go_ret
    exact ⟨rfl, rfl⟩

end Go.Proofs.YtdncdlcfgljheaaDoor
