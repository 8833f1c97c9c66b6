/- The sanity check of the statements about layer 20. -/
import Derived.Test.YtooflppljmnojaaSa
namespace Go.Proofs.Ytooflppljmnojaa
open Go.RowKit

theorem score_12 (W : World) : Calls Try.prog 6 #[.int .i64 1, .int .i64 2, .int .i64 4, .int .i64 8] W (GivesFE W false 1 2 (.bool true)) := by
  have h := cont_Score 1 2 4 8 W (by omega) (by omega) (by omega) (by omega) (by omega) (by omega) (by decide) (by decide)
  rw [show denOf 1 2 4 8 = 4 from rfl] at h
  exact h
theorem score_14 (W : World) : Calls Try.prog 6 #[.int .i64 2, .int .i64 2, .int .i64 4, .int .i64 8] W (GivesFE W false 1 4 (.bool true)) := by
  have h := cont_Score 2 2 4 8 W (by omega) (by omega) (by omega) (by omega) (by omega) (by omega) (by decide) (by decide)
  rw [show denOf 2 2 4 8 = 8 from rfl] at h
  exact h
theorem score_15 (W : World) : Calls Try.prog 6 #[.int .i64 3, .int .i64 2, .int .i64 4, .int .i64 8] W (GivesFE W false 1 5 (.bool true)) := by
  have h := cont_Score 3 2 4 8 W (by omega) (by omega) (by omega) (by omega) (by omega) (by omega) (by decide) (by decide)
  rw [show denOf 3 2 4 8 = 10 from rfl] at h
  exact h
theorem cell_alloc {w : World} {a : Addr} {v : Value} {o : Obj} (h : w.cell? a = some v) : (w.alloc o).cell? a = some v :=
  (World.cell?_alloc_lt _ _ _ (World.block_lt_of_cell? _ _ h)).trans h
theorem okF_1 (q : Nat) (h0 : 0 < q) (h : q < 10) : OkF false 1 q where
  pos := h0
  low := Nat.gcd_one_left q
  sign := fun _ => rfl
  num := small_pow (by omega)
  den := small_pow (by omega)
theorem text_1 (q : Nat) (t : ByteArray) (ht : ftext 1 q = t) (h0 : 0 < q) (h : q < 10) (v : Value) (w : World) (hv : RdF w v false 1 q) : Calls Try.prog 8 #[v] w (Ret w (.string t)) := by
  have h := ref_Text1 v 1 q w hv (okF_1 q h0 h) (by omega) h
  rw [ht] at h
  exact h
theorem cval (k : Int) (b : Bool) (hb : decide (1 ≤ k ∧ k ≤ 3) = b) (w : World) : Calls Try.prog 9 #[.int .i64 k] w (fun e w' => e = .returned (.bool b) ∧ w = w') := by
  subst hb; exact cont_Valid k w

set_option maxRecDepth 100000 in
set_option maxHeartbeats 4000000 in
theorem sane20 (w : World) : Calls Try.prog 4 #[] w (Ret w (.bool true)) := by
  have HT1 := hid (fun v W => text_1 2 ⟨#[49, 47, 50]⟩ (by decide +kernel) (by omega) (by omega) v W)
  have HT2 := hid (fun v W => text_1 4 ⟨#[49, 47, 52]⟩ (by decide +kernel) (by omega) (by omega) v W)
  have HT3 := hid (fun v W => text_1 5 ⟨#[49, 47, 53]⟩ (by decide +kernel) (by omega) (by omega) v W)
  have HS1 := hid score_12
  have HS2 := hid score_14
  have HS3 := hid score_15
  obtain ⟨P1, hP1⟩ : ∃ P, P = 1 := ⟨_, rfl⟩
  obtain ⟨Q1, hQ1⟩ : ∃ P, P = 2 := ⟨_, rfl⟩
  obtain ⟨P2, hP2⟩ : ∃ P, P = 1 := ⟨_, rfl⟩
  obtain ⟨Q2, hQ2⟩ : ∃ P, P = 4 := ⟨_, rfl⟩
  obtain ⟨P3, hP3⟩ : ∃ P, P = 1 := ⟨_, rfl⟩
  obtain ⟨Q3, hQ3⟩ : ∃ P, P = 5 := ⟨_, rfl⟩
  rw [← hP1, ← hQ1] at HT1 HS1
  rw [← hP2, ← hQ2] at HT2 HS2
  rw [← hP3, ← hQ3] at HT3 HS3
  clear hP1 hQ1 hP2 hQ2 hP3 hQ3
  go_enter Try.func4, Try.ntmps4
  go_wp2_with fail
  refine (HS1.out _).mono ?_
  rintro e w1 ⟨a1, c1, b1, d1, rfl, hN1, hb1⟩
  have HN1 := hid hN1
  have hz1 := hb1.size
  clear hN1
  go_wp2_with fail
  refine (HS2.out _).mono ?_
  rintro e w2 ⟨a2, c2, b2, d2, rfl, hN2, hb2⟩
  have HN2 := hid hN2
  have hz2 := hb2.size
  simp at hz2
  clear hN2
  have k0 := new_later hb2 (i := 0) rfl
  have k1 := new_later hb2 (i := 1) rfl
  have k2 := new_later hb2 (i := 2) rfl
  have k3 := new_later hb2 (i := 3) rfl
  go_wp2_with fail
  refine (HS3.out _).mono ?_
  rintro e w3 ⟨a3, c3, b3, d3, rfl, hN3, hb3⟩
  have HN3 := hid hN3
  have hz3 := hb3.size
  simp at hz3
  clear hN3
  have l0 := cell_later hb3 (cell_alloc k0)
  have l1 := cell_later hb3 (cell_alloc k1)
  have l2 := cell_later hb3 (cell_alloc k2)
  have l3 := cell_later hb3 (cell_alloc k3)
  have m0 := new_later hb3 (i := 0) rfl
  have m1 := new_later hb3 (i := 1) rfl
  have m2 := new_later hb3 (i := 2) rfl
  have m3 := new_later hb3 (i := 3) rfl
  have lt12 : w1.heap.size < w2.heap.size := by omega
  have lt13 : w1.heap.size < w3.heap.size := by omega
  have lt23 : w2.heap.size < w3.heap.size := by omega
  have ne13 : w1.heap.size ≠ w3.heap.size := by omega
  have ne23 : w2.heap.size ≠ w3.heap.size := by omega
  clear k0 k1 k2 k3
  go_wp2_with fail
  refine (HT1.out _ _ ((HN1.out.rd false).kept (by repeat' (first | (with_reducible exact Below.refl _ _) | (with_reducible assumption) | (with_reducible refine below_drewN ?_) | (with_reducible refine Below.alloc ?_ ?_ _) | (with_reducible refine Below.drew ?_) | (with_reducible refine Below.setCell ?_ ?_ _) | (with_reducible refine Below.trans ?_ (Below.mono (by with_reducible assumption) ?_)) | go_size)))).mono ?_
  rintro e w4 ⟨rfl, hb4⟩
  have hz4 := hb4.size
  simp at hz4
  have n0 := cell_later hb4 (cell_alloc m0)
  have n1 := cell_later hb4 (cell_alloc m1)
  have n2 := cell_later hb4 (cell_alloc m2)
  have n3 := cell_later hb4 (cell_alloc m3)
  have o0 := new_later hb4 (i := 0) rfl
  have o1 := new_later hb4 (i := 1) rfl
  have o2 := new_later hb4 (i := 2) rfl
  have o3 := new_later hb4 (i := 3) rfl
  go_wp2_with fail
  refine (HT2.out _ _ ((HN2.out.rd false).kept (by repeat' (first | (with_reducible exact Below.refl _ _) | (with_reducible assumption) | (with_reducible refine below_drewN ?_) | (with_reducible refine Below.alloc ?_ ?_ _) | (with_reducible refine Below.drew ?_) | (with_reducible refine Below.setCell ?_ ?_ _) | (with_reducible refine Below.trans ?_ (Below.mono (by with_reducible assumption) ?_)) | go_size)))).mono ?_
  rintro e w5 ⟨rfl, hb5⟩
  have hz5 := hb5.size
  have q0 := cell_later hb5 o0
  have q1 := cell_later hb5 o1
  have q2 := cell_later hb5 o2
  have q3 := cell_later hb5 o3
  go_wp2_with fail
  refine (HT3.out _ _ ((HN3.out.rd false).kept (by repeat' (first | (with_reducible exact Below.refl _ _) | (with_reducible assumption) | (with_reducible refine below_drewN ?_) | (with_reducible refine Below.alloc ?_ ?_ _) | (with_reducible refine Below.drew ?_) | (with_reducible refine Below.setCell ?_ ?_ _) | (with_reducible refine Below.trans ?_ (Below.mono (by with_reducible assumption) ?_)) | go_size)))).mono ?_
  rintro e w6 ⟨rfl, hb6⟩
  have hz6 := hb6.size
  go_wp2_with fail
  refine (cval 2 true (by decide) _).mono ?_
  rintro e w' ⟨rfl, rfl⟩
  go_wp2_with fail
  refine (cval 0 false (by decide) _).mono ?_
  rintro e w' ⟨rfl, rfl⟩
  go_wp2
  go_ret
  exact ⟨by rfl, by repeat' (first | (with_reducible exact Below.refl _ _) | (with_reducible assumption) | (with_reducible refine below_drewN ?_) | (with_reducible refine Below.alloc ?_ ?_ _) | (with_reducible refine Below.drew ?_) | (with_reducible refine Below.setCell ?_ ?_ _) | (with_reducible refine Below.trans ?_ (Below.mono (by with_reducible assumption) ?_)) | go_size)⟩

end Go.Proofs.Ytooflppljmnojaa
