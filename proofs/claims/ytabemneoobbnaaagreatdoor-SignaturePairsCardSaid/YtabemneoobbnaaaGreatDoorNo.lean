/- Contracts of the order of references: cmp.Compare, cmp.Or, table.Less, posting.named. -/
import Derived.Test.YtabemneoobbnaaaGreatDoorNj
namespace Go.Proofs.YtabemneoobbnaaaGreatDoor
open Go.RowKit

/-- the order of numbers as the library says it -/
def cmpZ (x y : Int) : Int := if x < y then -1 else if y < x then 1 else 0
set_option maxHeartbeats 400000 in
theorem lib_isNaN (x : Int) (w : World) : Calls Tryz.prog 79 #[.int .i64 x] w fun e w' => e = .returned (.bool false) ∧ w = w' := by
  go_enter Tryz.func79, Tryz.ntmps79
  go_wp2
  go_ret
  exact ⟨by simp, rfl⟩
set_option maxHeartbeats 1000000 in
theorem lib_Compare (x y : Int) (w : World) : Calls Tryz.prog 43 #[.int .i64 x, .int .i64 y] w fun e w' => e = .returned (.int .i64 (cmpZ x y)) ∧ w = w' := by
  have HC : Hid (cmpZ x y = if x < y then -1 else if y < x then 1 else 0) := hid rfl
  generalize cmpZ x y = c at *
  go_enter Tryz.func43, Tryz.ntmps43
  go_wp2_with fail
  with_reducible refine (lib_isNaN _ _).mono ?_
  rintro e w1 ⟨rfl, rfl⟩
  go_wp2_with fail
  with_reducible refine (lib_isNaN _ _).mono ?_
  rintro e w1 ⟨rfl, rfl⟩
  by_cases h1 : x < y
  · go_wp2
    go_ret
    exact ⟨ret_int (by rw [HC.out, if_pos (by omega)]), rfl⟩
  · by_cases h2 : y < x
    · go_wp2
      go_ret
      exact ⟨ret_int (by rw [HC.out, if_neg (by omega), if_pos (by omega)]), rfl⟩
    · go_wp2
      go_ret
      exact ⟨ret_int (by rw [HC.out, if_neg (by omega), if_neg (by omega)]), rfl⟩
/-- the first of two numbers that is not 0 -/
def orZ (x y : Int) : Int := if x ≠ 0 then x else y
set_option maxHeartbeats 1000000 in
theorem lib_Or2 (x y : Int) (b c : Nat) (w : World) (h0 : w.cell? ⟨b, 0, none⟩ = some (.int .i64 x)) (h1 : w.cell? ⟨b, 1, none⟩ = some (.int .i64 y)) :
    Calls Tryz.prog 62 #[.slice (some ⟨b, 0, none⟩) 2 c] w fun e w' => e = .returned (.int .i64 (orZ x y)) ∧ w = w' := by
  have HC : Hid (orZ x y = if x ≠ 0 then x else y) := hid rfl
  generalize orZ x y = z at *
  go_enter Tryz.func62, Tryz.ntmps62
  by_cases hx : x = 0
  · subst hx
    by_cases hy : y = 0
    · subst hy
      go_wp2
      refine wp_loop_rounds 3 ?_
      rw [rounds_succ]
      go_wp2
      rw [rounds_succ]
      go_wp2
      rw [rounds_succ]
      go_wp2
      go_ret
      exact ⟨ret_int (by rw [HC.out]; simp), rfl⟩
    · have hy1 : (y != 0) = true := by simpa using hy
      go_wp2
      refine wp_loop_rounds 3 ?_
      rw [rounds_succ]
      go_wp2
      rw [rounds_succ]
      go_wp2
      go_ret
      exact ⟨ret_int (by rw [HC.out]; simp), rfl⟩
  · have hx1 : (x != 0) = true := by simpa using hx
    go_wp2
    refine wp_loop_rounds 3 ?_
    rw [rounds_succ]
    go_wp2
    go_ret
    exact ⟨ret_int (by rw [HC.out]; simp [hx]), rfl⟩

/-- the order of references -/
def rlt (a b : Int × Int) : Bool := decide (a.1 < b.1) || (decide (a.1 = b.1) && decide (a.2 < b.2))
theorem rlt_or (a b : Int × Int) : rlt a b = decide (orZ (cmpZ a.1 b.1) (cmpZ a.2 b.2) < 0) := by
  unfold rlt orZ cmpZ
  rw [Bool.eq_iff_iff]
  by_cases h1 : a.1 < b.1 <;> by_cases h2 : b.1 < a.1 <;> by_cases h3 : a.2 < b.2 <;> by_cases h4 : b.2 < a.2 <;> simp [h1, h2, h3, h4] <;> omega

set_option maxHeartbeats 1000000 in
theorem table_Less (a1 a2 b1 b2 : Int) (w : World) : Calls Tryz.prog 67 #[.agg #[.int .i64 a1, .int .i64 a2], .agg #[.int .i64 b1, .int .i64 b2]] w (Ret w (.bool (rlt (a1, a2) (b1, b2)))) := by
  have HR := hid (rlt_or (a1, a2) (b1, b2))
  generalize rlt (a1, a2) (b1, b2) = r at *
  go_enter Tryz.func67, Tryz.ntmps67
  go_wp2_with fail
  go_region_held3 (fun w' => w'.cell? ⟨w.heap.size, 0, none⟩ = some (.int .i64 a1) ∧ w'.cell? ⟨w.heap.size, 1, none⟩ = some (.int .i64 a2) ∧ w'.cell? ⟨w.heap.size + 1, 0, none⟩ = some (.int .i64 b1) ∧ w'.cell? ⟨w.heap.size + 1, 1, none⟩ = some (.int .i64 b2))
    (first | go_keep)
    (first
      | (go_at_call 43; go_must (((with_reducible refine (lib_Compare _ _ _).mono ?_); rintro e w5 ⟨rfl, rfl⟩)))
      | (go_at_call 62; go_must (((with_reducible refine (lib_Or2 (cmpZ a1 b1) (cmpZ a2 b2) _ _ _ (by go_cell) (by go_cell)).mono ?_); rintro e w5 ⟨rfl, rfl⟩))))
  all_goals
    go_wp2
    go_ret
    exact ⟨ret_bool (by rw [HR.out]), by have := Below.refl w.heap.size w; repeat' (first | (with_reducible exact Below.refl _ _) | (with_reducible assumption) | (with_reducible refine below_drewN ?_) | (with_reducible refine Below.alloc ?_ ?_ _) | (with_reducible refine Below.drew ?_) | (with_reducible refine Below.setCell ?_ ?_ _) | (with_reducible refine Below.trans ?_ (Below.mono (by with_reducible assumption) ?_)) | go_size)⟩

set_option maxHeartbeats 400000 in
theorem posting_named (a1 a2 : Int) (w : World) (h1 : 0 ≤ a1) (h2 : a1 ≤ 1073741824) (h3 : 0 ≤ a2) : Calls Tryz.prog 66 #[.agg #[.int .i64 a1, .int .i64 a2]] w (Ret w (.bool true)) := by
  go_enter Tryz.func66, Tryz.ntmps66
  go_wp2
  go_ret
  exact ⟨ret_bool (by first | (simp; done) | (simp; omega)), by have := Below.refl w.heap.size w; repeat' (first | (with_reducible exact Below.refl _ _) | (with_reducible assumption) | (with_reducible refine below_drewN ?_) | (with_reducible refine Below.alloc ?_ ?_ _) | (with_reducible refine Below.drew ?_) | (with_reducible refine Below.setCell ?_ ?_ _) | (with_reducible refine Below.trans ?_ (Below.mono (by with_reducible assumption) ?_)) | go_size)⟩

end Go.Proofs.YtabemneoobbnaaaGreatDoor
