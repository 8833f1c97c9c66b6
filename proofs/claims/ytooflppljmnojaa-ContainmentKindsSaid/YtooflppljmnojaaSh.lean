/- The walk through ContainmentKinds: one case. -/
import Derived.Test.YtooflppljmnojaaSc
namespace Go.Proofs.Ytooflppljmnojaa
open Go.RowKit

set_option maxRecDepth 100000 in
set_option maxHeartbeats 20000000 in
theorem kinds_zero_ge (x y z q n : Nat) (w : World) (hx : x < 256) (hy : y < 256) (hz : z < 256) (hq : 1 + (y : Int) % 40 = (q : Int)) (hn : 1 + (z : Int) % 40 = (n : Int))
    (hq1 : 1 ≤ q) (hq2 : q ≤ 40) (hn1 : 1 ≤ n) (hn2 : n ≤ 40) (hnq : ¬ n < q) (hc : (x : Int) % ((q : Int) + 1) = 0) (hcq : 0 ≤ q) (hcn : 0 ≤ n) :
    Calls Try.prog 3 #[.int .u8 (x : Int), .int .u8 (y : Int), .int .u8 (z : Int)] w (Ret w (.bool true)) := by
  have rk : ∀ k, 1 ≤ k → k ≤ 3 → Rng k 0 q n := fun k h1 h3 => ⟨h1, h3, hcq, hcn, hq1, hq2, hn1, hn2⟩
  have HRK := hid rk
  have HS1 := hid (score_any (rk 1 (by omega) (by omega)))
  have HS2 := hid (score_any (rk 2 (by omega) (by omega)))
  have HS3 := hid (score_any (rk 3 (by omega) (by omega)))
  have g1 := cmp_any (rk 3 (by omega) (by omega)) (rk 1 (by omega) (by omega))
  have g2 := cmp_any (rk 3 (by omega) (by omega)) (rk 2 (by omega) (by omega))
  have g3 := cmp_one (rk 3 (by omega) (by omega))
  have g4 := cmp_one (rk 1 (by omega) (by omega))
  have g5 := cmp_one (rk 2 (by omega) (by omega))
  have e1 : denOf 1 0 q n = q := rfl
  have e2 : denOf 2 0 q n = n := rfl
  have e3 : denOf 3 0 q n = q + n - 0 := rfl
  rw [e1, e3] at g1
  rw [e2, e3] at g2
  rw [e3] at g3
  rw [e1] at g4
  rw [e2] at g5
  have i1 : sgn (0 * q) (0 * (q + n - 0)) ≤ 0 := by
    have h0 : 0 * q ≤ 0 * (q + n - 0) := Nat.mul_le_mul_left _ (by omega)
    rcases Nat.lt_or_ge (0 * q) (0 * (q + n - 0)) with h | h
    · rw [sgn_lt h]; omega
    · rw [show 0 * q = 0 * (q + n - 0) from Nat.le_antisymm h0 h, sgn_self]; omega
  have i2 : sgn (0 * n) (0 * (q + n - 0)) ≤ 0 := by
    have h0 : 0 * n ≤ 0 * (q + n - 0) := Nat.mul_le_mul_left _ (by omega)
    rcases Nat.lt_or_ge (0 * n) (0 * (q + n - 0)) with h | h
    · rw [sgn_lt h]; omega
    · rw [show 0 * n = 0 * (q + n - 0) from Nat.le_antisymm h0 h, sgn_self]; omega
  have i3 : (sgn 0 (q + n - 0) == 0) = false := by
    rw [beq_eq_false_iff_ne]; intro h; rw [sgn_zero] at h; omega
  have i4 : (sgn 0 q == 0) = false := by rw [beq_eq_false_iff_ne]; intro h; rw [sgn_zero] at h; omega
  have i5 : (sgn 0 n == 0) = false := by rw [beq_eq_false_iff_ne]; intro h; rw [sgn_zero] at h; omega
  have i6 : ((0 : Int) == (q : Int)) = false := by rw [beq_eq_false_iff_ne]; omega
  have i7 : ((0 : Int) == (n : Int)) = false := by rw [beq_eq_false_iff_ne]; omega
  have HX1 := hid (text_any (rk 1 (by omega) (by omega)))
  have HX2 := hid (text_any (rk 2 (by omega) (by omega)))
  have HX3 := hid (text_any (rk 3 (by omega) (by omega)))
  have G1 := hid g1
  have G2 := hid g2
  have G3 := hid g3
  have G4 := hid g4
  have G5 := hid g5
  generalize sgn (0 * q) (0 * (q + n - 0)) = s1 at *
  generalize sgn (0 * n) (0 * (q + n - 0)) = s2 at *
  generalize sgn 0 (q + n - 0) = s3 at *
  generalize sgn 0 q = s4 at *
  generalize sgn 0 n = s5 at *
  clear g1 g2 g3 g4 g5 e1 e2 e3 rk
  have HW := hid (fun W => ref_Whole 1 W (by omega))
  go_enter Try.func3, Try.ntmps3
  go_wp2_with fail
  refine (sane20 _).mono ?_
  rintro e w0 ⟨rfl, hb0⟩
  have hzw0 := hb0.size
  go_wp2_with fail
  refine (HW.out _).mono ?_
  rintro e w1 ⟨a0, c0, b0, d0, rfl, hN0, hb1⟩
  have HN0 := hid hN0
  have hzw1 := hb1.size
  clear hN0
  go_wp2_with fail
  refine (HS1.out _).mono ?_
  rintro e w2 ⟨a1, c1, b1, d1, rfl, hN1, hb2⟩
  have HN1 := hid hN1
  have hzw2 := hb2.size
  (try simp at hzw2)
  clear hN1
  have k0 := new_later hb2 (i := 0) rfl
  have k1 := new_later hb2 (i := 1) rfl
  have k2 := new_later hb2 (i := 2) rfl
  have k3 := new_later hb2 (i := 3) rfl
  go_wp2_with fail
  refine (HS2.out _).mono ?_
  rintro e w3 ⟨a2, c2, b2, d2, rfl, hN2, hb3⟩
  have HN2 := hid hN2
  have hzw3 := hb3.size
  (try simp at hzw3)
  clear hN2
  have l0 := cell_later hb3 (cell_alloc k0)
  have l1 := cell_later hb3 (cell_alloc k1)
  have l2 := cell_later hb3 (cell_alloc k2)
  have l3 := cell_later hb3 (cell_alloc k3)
  have p0 := new_later hb3 (i := 0) rfl
  have p1 := new_later hb3 (i := 1) rfl
  have p2 := new_later hb3 (i := 2) rfl
  have p3 := new_later hb3 (i := 3) rfl
  clear k0 k1 k2 k3
  go_wp2_with fail
  refine (HS3.out _).mono ?_
  rintro e w4 ⟨a3, c3, b3, d3, rfl, hN3, hb4⟩
  have HN3 := hid hN3
  have hzw4 := hb4.size
  (try simp at hzw4)
  clear hN3
  have m0 := cell_later hb4 (cell_alloc l0)
  have m1 := cell_later hb4 (cell_alloc l1)
  have m2 := cell_later hb4 (cell_alloc l2)
  have m3 := cell_later hb4 (cell_alloc l3)
  have r0 := cell_later hb4 (cell_alloc p0)
  have r1 := cell_later hb4 (cell_alloc p1)
  have r2 := cell_later hb4 (cell_alloc p2)
  have r3 := cell_later hb4 (cell_alloc p3)
  have s0 := new_later hb4 (i := 0) rfl
  have s1 := new_later hb4 (i := 1) rfl
  have s2 := new_later hb4 (i := 2) rfl
  have s3 := new_later hb4 (i := 3) rfl
  clear l0 l1 l2 l3 p0 p1 p2 p3
  have lt_w1_w4 : w1.heap.size < w4.heap.size := by omega
  have ne_w1_w4 : w1.heap.size ≠ w4.heap.size := by omega
  have lt_w2_w4 : w2.heap.size < w4.heap.size := by omega
  have ne_w2_w4 : w2.heap.size ≠ w4.heap.size := by omega
  have lt_w3_w4 : w3.heap.size < w4.heap.size := by omega
  have ne_w3_w4 : w3.heap.size ≠ w4.heap.size := by omega
  go_wp2_with fail
  refine (G1.out _ _ _ ((HN3.out.rd false).kept (by repeat' (first | (with_reducible exact Below.refl _ _) | (with_reducible assumption) | (with_reducible refine below_drewN ?_) | (with_reducible refine Below.alloc ?_ ?_ _) | (with_reducible refine Below.drew ?_) | (with_reducible refine Below.setCell ?_ ?_ _) | (with_reducible refine Below.trans ?_ (Below.mono (by with_reducible assumption) ?_)) | go_size))) ((HN1.out.rd false).kept (by repeat' (first | (with_reducible exact Below.refl _ _) | (with_reducible assumption) | (with_reducible refine below_drewN ?_) | (with_reducible refine Below.alloc ?_ ?_ _) | (with_reducible refine Below.drew ?_) | (with_reducible refine Below.setCell ?_ ?_ _) | (with_reducible refine Below.trans ?_ (Below.mono (by with_reducible assumption) ?_)) | go_size)))).mono ?_
  rintro e w5 ⟨rfl, hb5⟩
  have hzw5 := hb5.size
  (try simp at hzw5)
  have ta0 := cell_later hb5 (cell_alloc m0)
  have ta1 := cell_later hb5 (cell_alloc m1)
  have ta2 := cell_later hb5 (cell_alloc m2)
  have ta3 := cell_later hb5 (cell_alloc m3)
  have tb0 := cell_later hb5 (cell_alloc r0)
  have tb1 := cell_later hb5 (cell_alloc r1)
  have tb2 := cell_later hb5 (cell_alloc r2)
  have tb3 := cell_later hb5 (cell_alloc r3)
  have tc0 := cell_later hb5 (cell_alloc s0)
  have tc1 := cell_later hb5 (cell_alloc s1)
  have tc2 := cell_later hb5 (cell_alloc s2)
  have tc3 := cell_later hb5 (cell_alloc s3)
  have td0 := new_later hb5 (i := 0) rfl
  have td1 := new_later hb5 (i := 1) rfl
  have td2 := new_later hb5 (i := 2) rfl
  have td3 := new_later hb5 (i := 3) rfl
  skip
  go_wp2_with fail
  refine (G2.out _ _ _ ((HN3.out.rd false).kept (by repeat' (first | (with_reducible exact Below.refl _ _) | (with_reducible assumption) | (with_reducible refine below_drewN ?_) | (with_reducible refine Below.alloc ?_ ?_ _) | (with_reducible refine Below.drew ?_) | (with_reducible refine Below.setCell ?_ ?_ _) | (with_reducible refine Below.trans ?_ (Below.mono (by with_reducible assumption) ?_)) | go_size))) ((HN2.out.rd false).kept (by repeat' (first | (with_reducible exact Below.refl _ _) | (with_reducible assumption) | (with_reducible refine below_drewN ?_) | (with_reducible refine Below.alloc ?_ ?_ _) | (with_reducible refine Below.drew ?_) | (with_reducible refine Below.setCell ?_ ?_ _) | (with_reducible refine Below.trans ?_ (Below.mono (by with_reducible assumption) ?_)) | go_size)))).mono ?_
  rintro e w6 ⟨rfl, hb6⟩
  have hzw6 := hb6.size
  (try simp at hzw6)
  have ua0 := cell_later hb6 ta0
  have ua1 := cell_later hb6 ta1
  have ua2 := cell_later hb6 ta2
  have ua3 := cell_later hb6 ta3
  have ub0 := cell_later hb6 tb0
  have ub1 := cell_later hb6 tb1
  have ub2 := cell_later hb6 tb2
  have ub3 := cell_later hb6 tb3
  have uc0 := cell_later hb6 tc0
  have uc1 := cell_later hb6 tc1
  have uc2 := cell_later hb6 tc2
  have uc3 := cell_later hb6 tc3
  have ud0 := cell_later hb6 td0
  have ud1 := cell_later hb6 td1
  have ud2 := cell_later hb6 td2
  have ud3 := cell_later hb6 td3
  clear ta0 ta1 ta2 ta3 tb0 tb1 tb2 tb3 tc0 tc1 tc2 tc3 td0 td1 td2 td3
  go_wp2_with fail
  refine (G3.out _ _ _ ((HN3.out.rd false).kept (by repeat' (first | (with_reducible exact Below.refl _ _) | (with_reducible assumption) | (with_reducible refine below_drewN ?_) | (with_reducible refine Below.alloc ?_ ?_ _) | (with_reducible refine Below.drew ?_) | (with_reducible refine Below.setCell ?_ ?_ _) | (with_reducible refine Below.trans ?_ (Below.mono (by with_reducible assumption) ?_)) | go_size))) ((HN0.out.rd false).kept (by repeat' (first | (with_reducible exact Below.refl _ _) | (with_reducible assumption) | (with_reducible refine below_drewN ?_) | (with_reducible refine Below.alloc ?_ ?_ _) | (with_reducible refine Below.drew ?_) | (with_reducible refine Below.setCell ?_ ?_ _) | (with_reducible refine Below.trans ?_ (Below.mono (by with_reducible assumption) ?_)) | go_size)))).mono ?_
  rintro e w7 ⟨rfl, hb7⟩
  have hzw7 := hb7.size
  (try simp at hzw7)
  have va0 := cell_later hb7 ua0
  have va1 := cell_later hb7 ua1
  have va2 := cell_later hb7 ua2
  have va3 := cell_later hb7 ua3
  have vb0 := cell_later hb7 ub0
  have vb1 := cell_later hb7 ub1
  have vb2 := cell_later hb7 ub2
  have vb3 := cell_later hb7 ub3
  have vc0 := cell_later hb7 uc0
  have vc1 := cell_later hb7 uc1
  have vc2 := cell_later hb7 uc2
  have vc3 := cell_later hb7 uc3
  have vd0 := cell_later hb7 ud0
  have vd1 := cell_later hb7 ud1
  have vd2 := cell_later hb7 ud2
  have vd3 := cell_later hb7 ud3
  clear ua0 ua1 ua2 ua3 ub0 ub1 ub2 ub3 uc0 uc1 uc2 uc3 ud0 ud1 ud2 ud3
  go_wp2_with fail
  refine (G4.out _ _ _ ((HN1.out.rd false).kept (by repeat' (first | (with_reducible exact Below.refl _ _) | (with_reducible assumption) | (with_reducible refine below_drewN ?_) | (with_reducible refine Below.alloc ?_ ?_ _) | (with_reducible refine Below.drew ?_) | (with_reducible refine Below.setCell ?_ ?_ _) | (with_reducible refine Below.trans ?_ (Below.mono (by with_reducible assumption) ?_)) | go_size))) ((HN0.out.rd false).kept (by repeat' (first | (with_reducible exact Below.refl _ _) | (with_reducible assumption) | (with_reducible refine below_drewN ?_) | (with_reducible refine Below.alloc ?_ ?_ _) | (with_reducible refine Below.drew ?_) | (with_reducible refine Below.setCell ?_ ?_ _) | (with_reducible refine Below.trans ?_ (Below.mono (by with_reducible assumption) ?_)) | go_size)))).mono ?_
  rintro e w8 ⟨rfl, hb8⟩
  have hzw8 := hb8.size
  (try simp at hzw8)
  have xa0 := cell_later hb8 va0
  have xa1 := cell_later hb8 va1
  have xa2 := cell_later hb8 va2
  have xa3 := cell_later hb8 va3
  have xb0 := cell_later hb8 vb0
  have xb1 := cell_later hb8 vb1
  have xb2 := cell_later hb8 vb2
  have xb3 := cell_later hb8 vb3
  have xc0 := cell_later hb8 vc0
  have xc1 := cell_later hb8 vc1
  have xc2 := cell_later hb8 vc2
  have xc3 := cell_later hb8 vc3
  have xd0 := cell_later hb8 vd0
  have xd1 := cell_later hb8 vd1
  have xd2 := cell_later hb8 vd2
  have xd3 := cell_later hb8 vd3
  clear va0 va1 va2 va3 vb0 vb1 vb2 vb3 vc0 vc1 vc2 vc3 vd0 vd1 vd2 vd3
  go_wp2_with fail
  refine (G5.out _ _ _ ((HN2.out.rd false).kept (by repeat' (first | (with_reducible exact Below.refl _ _) | (with_reducible assumption) | (with_reducible refine below_drewN ?_) | (with_reducible refine Below.alloc ?_ ?_ _) | (with_reducible refine Below.drew ?_) | (with_reducible refine Below.setCell ?_ ?_ _) | (with_reducible refine Below.trans ?_ (Below.mono (by with_reducible assumption) ?_)) | go_size))) ((HN0.out.rd false).kept (by repeat' (first | (with_reducible exact Below.refl _ _) | (with_reducible assumption) | (with_reducible refine below_drewN ?_) | (with_reducible refine Below.alloc ?_ ?_ _) | (with_reducible refine Below.drew ?_) | (with_reducible refine Below.setCell ?_ ?_ _) | (with_reducible refine Below.trans ?_ (Below.mono (by with_reducible assumption) ?_)) | go_size)))).mono ?_
  rintro e w9 ⟨rfl, hb9⟩
  have hzw9 := hb9.size
  (try simp at hzw9)
  have ya0 := cell_later hb9 xa0
  have ya1 := cell_later hb9 xa1
  have ya2 := cell_later hb9 xa2
  have ya3 := cell_later hb9 xa3
  have yb0 := cell_later hb9 xb0
  have yb1 := cell_later hb9 xb1
  have yb2 := cell_later hb9 xb2
  have yb3 := cell_later hb9 xb3
  have yc0 := cell_later hb9 xc0
  have yc1 := cell_later hb9 xc1
  have yc2 := cell_later hb9 xc2
  have yc3 := cell_later hb9 xc3
  have yd0 := cell_later hb9 xd0
  have yd1 := cell_later hb9 xd1
  have yd2 := cell_later hb9 xd2
  have yd3 := cell_later hb9 xd3
  clear xa0 xa1 xa2 xa3 xb0 xb1 xb2 xb3 xc0 xc1 xc2 xc3 xd0 xd1 xd2 xd3
  go_wp2_with fail
  refine (HX1.out _ _ ((HN1.out.rd false).kept (by repeat' (first | (with_reducible exact Below.refl _ _) | (with_reducible assumption) | (with_reducible refine below_drewN ?_) | (with_reducible refine Below.alloc ?_ ?_ _) | (with_reducible refine Below.drew ?_) | (with_reducible refine Below.setCell ?_ ?_ _) | (with_reducible refine Below.trans ?_ (Below.mono (by with_reducible assumption) ?_)) | go_size)))).mono ?_
  rintro e w10 ⟨rfl, hb10⟩
  have hzw10 := hb10.size
  have ua0 := cell_later hb10 ya0
  have ua1 := cell_later hb10 ya1
  have ua2 := cell_later hb10 ya2
  have ua3 := cell_later hb10 ya3
  have ub0 := cell_later hb10 yb0
  have ub1 := cell_later hb10 yb1
  have ub2 := cell_later hb10 yb2
  have ub3 := cell_later hb10 yb3
  have uc0 := cell_later hb10 yc0
  have uc1 := cell_later hb10 yc1
  have uc2 := cell_later hb10 yc2
  have uc3 := cell_later hb10 yc3
  have ud0 := cell_later hb10 yd0
  have ud1 := cell_later hb10 yd1
  have ud2 := cell_later hb10 yd2
  have ud3 := cell_later hb10 yd3
  clear ya0 ya1 ya2 ya3 yb0 yb1 yb2 yb3 yc0 yc1 yc2 yc3 yd0 yd1 yd2 yd3
  go_wp2_with fail
  refine (HX2.out _ _ ((HN2.out.rd false).kept (by repeat' (first | (with_reducible exact Below.refl _ _) | (with_reducible assumption) | (with_reducible refine below_drewN ?_) | (with_reducible refine Below.alloc ?_ ?_ _) | (with_reducible refine Below.drew ?_) | (with_reducible refine Below.setCell ?_ ?_ _) | (with_reducible refine Below.trans ?_ (Below.mono (by with_reducible assumption) ?_)) | go_size)))).mono ?_
  rintro e w11 ⟨rfl, hb11⟩
  have hzw11 := hb11.size
  have va0 := cell_later hb11 ua0
  have va1 := cell_later hb11 ua1
  have va2 := cell_later hb11 ua2
  have va3 := cell_later hb11 ua3
  have vb0 := cell_later hb11 ub0
  have vb1 := cell_later hb11 ub1
  have vb2 := cell_later hb11 ub2
  have vb3 := cell_later hb11 ub3
  have vc0 := cell_later hb11 uc0
  have vc1 := cell_later hb11 uc1
  have vc2 := cell_later hb11 uc2
  have vc3 := cell_later hb11 uc3
  have vd0 := cell_later hb11 ud0
  have vd1 := cell_later hb11 ud1
  have vd2 := cell_later hb11 ud2
  have vd3 := cell_later hb11 ud3
  clear ua0 ua1 ua2 ua3 ub0 ub1 ub2 ub3 uc0 uc1 uc2 uc3 ud0 ud1 ud2 ud3
  go_wp2_with fail
  refine (HX3.out _ _ ((HN3.out.rd false).kept (by repeat' (first | (with_reducible exact Below.refl _ _) | (with_reducible assumption) | (with_reducible refine below_drewN ?_) | (with_reducible refine Below.alloc ?_ ?_ _) | (with_reducible refine Below.drew ?_) | (with_reducible refine Below.setCell ?_ ?_ _) | (with_reducible refine Below.trans ?_ (Below.mono (by with_reducible assumption) ?_)) | go_size)))).mono ?_
  rintro e w12 ⟨rfl, hb12⟩
  have hzw12 := hb12.size
  have ta0 := cell_later hb12 va0
  have ta1 := cell_later hb12 va1
  have ta2 := cell_later hb12 va2
  have ta3 := cell_later hb12 va3
  have tb0 := cell_later hb12 vb0
  have tb1 := cell_later hb12 vb1
  have tb2 := cell_later hb12 vb2
  have tb3 := cell_later hb12 vb3
  have tc0 := cell_later hb12 vc0
  have tc1 := cell_later hb12 vc1
  have tc2 := cell_later hb12 vc2
  have tc3 := cell_later hb12 vc3
  have td0 := cell_later hb12 vd0
  have td1 := cell_later hb12 vd1
  have td2 := cell_later hb12 vd2
  have td3 := cell_later hb12 vd3
  clear va0 va1 va2 va3 vb0 vb1 vb2 vb3 vc0 vc1 vc2 vc3 vd0 vd1 vd2 vd3
  go_wp2
  go_ret
  exact ⟨by rfl, by repeat' (first | (with_reducible exact Below.refl _ _) | (with_reducible assumption) | (with_reducible refine below_drewN ?_) | (with_reducible refine Below.alloc ?_ ?_ _) | (with_reducible refine Below.drew ?_) | (with_reducible refine Below.setCell ?_ ?_ _) | (with_reducible refine Below.trans ?_ (Below.mono (by with_reducible assumption) ?_)) | go_size)⟩

end Go.Proofs.Ytooflppljmnojaa
