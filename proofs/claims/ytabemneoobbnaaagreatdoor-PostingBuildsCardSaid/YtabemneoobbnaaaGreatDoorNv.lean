/- Contract of posting.byRef: what it grows is said exactly. -/
import Derived.Test.YtabemneoobbnaaaGreatDoorNu
import Derived.Shelf.SlSortCmp.WholeK
namespace Go.Proofs.YtabemneoobbnaaaGreatDoor
open Go.Shelf Go.RowKit Go.Lib Go.Sort

/-- returns a value; the world has drawn and grown -/
def Grows (w : World) (v : Value) (e : Ending) (w' : World) : Prop := e = .returned v ∧ ∃ q os', w' = grow (w.drewN q) os'

theorem grow_drew (w : World) (os : Array Obj) : (grow w os).drew = grow w.drew os := rfl
theorem grow_drewN (w : World) (os : Array Obj) (n : Nat) : (grow w os).drewN n = grow (w.drewN n) os := rfl
theorem drew_N (w : World) : w.drew = w.drewN 1 := rfl

set_option maxHeartbeats 2000000 in
theorem table_LessG (a1 a2 b1 b2 : Int) (w : World) : Calls Tryz.prog 67 #[.agg #[.int .i64 a1, .int .i64 a2], .agg #[.int .i64 b1, .int .i64 b2]] w (Grows w (.bool (rlt (a1, a2) (b1, b2)))) := by
  have HR := hid (rlt_or (a1, a2) (b1, b2))
  generalize rlt (a1, a2) (b1, b2) = r at *
  go_enter Tryz.func67, Tryz.ntmps67
  go_wp2_with fail
  go_region_held3 (fun w' => w'.cell? ⟨w.heap.size, 0, none⟩ = some (.int .i64 a1) ∧ w'.cell? ⟨w.heap.size, 1, none⟩ = some (.int .i64 a2) ∧ w'.cell? ⟨w.heap.size + 1, 0, none⟩ = some (.int .i64 b1) ∧ w'.cell? ⟨w.heap.size + 1, 1, none⟩ = some (.int .i64 b2))
    (first | go_keep)
    (first
      | (go_at_call 43; go_must (((with_reducible refine (lib_Compare _ _ _).mono ?_); rintro e w5 ⟨rfl, rfl⟩)))
      | (go_at_call 62; go_must (((with_reducible refine (lib_Or2 (cmpZ a1 b1) (cmpZ a2 b2) _ _ _ (by go_cell) (by go_cell)).mono ?_); rintro e w5 ⟨rfl, rfl⟩))))
  all_goals
    go_wp2
    go_ret
    refine ⟨ret_bool (by rw [HR.out]), ?_⟩
    simp only [alloc_eq_grow, grow_grow, grow_drew, grow_drewN, drew_N, World.drewN_drewN]
    exact ⟨_, _, rfl⟩

/-- how two references stand -/
def refCmp (a b : Int × Int) : Int := if rlt a b = true then -1 else if reqB a b = true then 0 else 1

set_option maxHeartbeats 2000000 in
theorem posting_byRef (a1 a2 b1 b2 : Int) (xa ya : Option Addr) (xn xc yn yc : Nat) (w : World) :
    Calls Tryz.prog 90 #[.agg #[.int .i64 a1, .int .i64 a2, .slice xa xn xc], .agg #[.int .i64 b1, .int .i64 b2, .slice ya yn yc]] w (Grows w (.int .i64 (refCmp (a1, a2) (b1, b2)))) := by
  have HRC : Hid (refCmp (a1, a2) (b1, b2) = if rlt (a1, a2) (b1, b2) = true then -1 else if (decide (a1 = b1) && decide (a2 = b2)) = true then 0 else 1) := hid rfl
  have HLE := hid (fun W => table_LessG a1 a2 b1 b2 W)
  generalize refCmp (a1, a2) (b1, b2) = R at *
  generalize rlt (a1, a2) (b1, b2) = l at *
  go_enter Tryz.func90, Tryz.ntmps90
  have h1 := BoxN.new w #[.int .i64 a1, .int .i64 a2, .slice xa xn xc] 96
  have h2 := BoxN.new (w.alloc (.cells #[.int .i64 a1, .int .i64 a2, .slice xa xn xc] 96)) #[.int .i64 b1, .int .i64 b2, .slice ya yn yc] 96
  have h3 := h1.alloc (.cells #[.int .i64 b1, .int .i64 b2, .slice ya yn yc] 96)
  rw [World.size_alloc] at h2
  have hz : ((w.alloc (.cells #[.int .i64 a1, .int .i64 a2, .slice xa xn xc] 96)).alloc (.cells #[.int .i64 b1, .int .i64 b2, .slice ya yn yc] 96)).heap.size = w.heap.size + 2 := by simp
  have c0 := h3.cell 0 rfl
  have c1 := h3.cell 1 rfl
  have c2 := h2.cell 0 rfl
  have c3 := h2.cell 1 rfl
  clear h1 h2 h3
  go_wp2_with fail
  have HW := hid (show ∃ q os, ((w.alloc (.cells #[.int .i64 a1, .int .i64 a2, .slice xa xn xc] 96)).alloc (.cells #[.int .i64 b1, .int .i64 b2, .slice ya yn yc] 96)) = grow (w.drewN q) os from ⟨0, _, by simp only [alloc_eq_grow, grow_grow]; rfl⟩)
  generalize ((w.alloc (.cells #[.int .i64 a1, .int .i64 a2, .slice xa xn xc] 96)).alloc (.cells #[.int .i64 b1, .int .i64 b2, .slice ya yn yc] 96)) = W2 at *
  have HD : Hid (∀ w', (∃ q os, w' = grow (W2.drewN q) os) → w'.cell? ⟨w.heap.size, 0, none⟩ = some (.int .i64 a1) ∧ w'.cell? ⟨w.heap.size, 1, none⟩ = some (.int .i64 a2) ∧ w'.cell? ⟨w.heap.size + 1, 0, none⟩ = some (.int .i64 b1) ∧ w'.cell? ⟨w.heap.size + 1, 1, none⟩ = some (.int .i64 b2)) := hid (by
    rintro _ ⟨q, os, rfl⟩
    exact ⟨(cell?_grow (W2.drewN q) os _ (by show w.heap.size < W2.heap.size; omega)).trans c0, (cell?_grow (W2.drewN q) os _ (by show w.heap.size < W2.heap.size; omega)).trans c1, (cell?_grow (W2.drewN q) os _ (by show w.heap.size + 1 < W2.heap.size; omega)).trans c2, (cell?_grow (W2.drewN q) os _ (by show w.heap.size + 1 < W2.heap.size; omega)).trans c3⟩)
  with_reducible refine (HLE.out _).mono ?_
  rintro e w5 ⟨rfl, hw5⟩
  obtain ⟨d0, d1, d2, d3⟩ := HD.out w5 hw5
  have HG : Hid (∃ q os, w5 = grow (w.drewN q) os) := hid (by
    obtain ⟨q, os, rfl⟩ := hw5
    obtain ⟨q1, os1, e1⟩ := HW.out
    exact ⟨q1 + q, os1 ++ os, by rw [e1, grow_drewN, grow_grow, World.drewN_drewN]⟩)
  clear hw5 c0 c1 c2 c3
  go_wp2
  all_goals
    go_ret
    refine ⟨?_, ?_⟩
    · rw [HRC.out]; simp [*]
    · obtain ⟨q, os, e1⟩ := HG.out
      first
        | exact ⟨q, os, e1⟩
        | (refine ⟨q + 1, os, ?_⟩; rw [e1, drew_N, grow_drewN, World.drewN_drewN])

end Go.Proofs.YtabemneoobbnaaaGreatDoor
