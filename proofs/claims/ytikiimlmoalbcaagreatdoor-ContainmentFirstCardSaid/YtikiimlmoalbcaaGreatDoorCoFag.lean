/- Contract of the reference's comparison of fractions. Contracts of the reference's texts of numbers of one decimal digit, and of fractions of such. Contract of the reference's Text, of fractions of one decimal digit. -/
import Derived.Test.YtikiimlmoalbcaaGreatDoorCoFaf
import Derived.Test.YtikiimlmoalbcaaGreatDoorCoFab
set_option linter.unusedVariables false
set_option linter.unusedSimpArgs false
namespace Go.Proofs.YtikiimlmoalbcaaGreatDoor.Fr
open Go.RowKit
def zF (neg : Bool) (p : Nat) : Int := if neg then -(p : Int) else (p : Int)
theorem zF_natAbs (neg : Bool) (p : Nat) : (zF neg p).natAbs = p := by cases neg <;> simp [zF]
theorem zF_neg {neg : Bool} {p : Nat} (h : p = 0 → neg = false) : decide (zF neg p < 0) = neg := by
  cases neg
  · simp [zF]
  · have : p ≠ 0 := fun e => by simpa using h e
    simp [zF]; omega
theorem rdZ_mk {w : World} {a : Option Addr} {c : Nat} {z : Int} (h : Rd32 w (.slice a (dig z.natAbs).length c) (dig z.natAbs)) : RdZ w (.agg #[.bool (decide (z < 0)), .slice a (dig z.natAbs).length c]) z := ⟨a, c, rfl, h⟩
theorem new_later {w wx : World} {C : Array Value} {t : TypeId} {i : Nat} {v : Value} (hb : Below (w.alloc (.cells C t)).heap.size (w.alloc (.cells C t)) wx) (h : C[i]? = some v) : wx.cell? ⟨w.heap.size, i, none⟩ = some v :=
  cell_later hb (by rw [World.cell?_alloc_new]; exact h)
theorem fnew_later {w wx : World} {C : Array Value} {t : TypeId} (hb : Below (w.alloc (.cells C t)).heap.size (w.alloc (.cells C t)) wx) (i : Nat) : wx.frozen? ⟨w.heap.size, i, none⟩ = false :=
  (hb.frozen (p := ⟨w.heap.size, i, none⟩) (by simp)).trans (by simp)
theorem new_later_drew {w wx : World} {C : Array Value} {t : TypeId} {i : Nat} {v : Value} (hb : Below (w.alloc (.cells C t)).drew.heap.size (w.alloc (.cells C t)).drew wx) (h : C[i]? = some v) : wx.cell? ⟨w.heap.size, i, none⟩ = some v :=
  cell_later hb (by rw [World.cell?_drew, World.cell?_alloc_new]; exact h)
theorem fnew_later_drew {w wx : World} {C : Array Value} {t : TypeId} (hb : Below (w.alloc (.cells C t)).drew.heap.size (w.alloc (.cells C t)).drew wx) (i : Nat) : wx.frozen? ⟨w.heap.size, i, none⟩ = false :=
  (hb.frozen (p := ⟨w.heap.size, i, none⟩) (by simp)).trans (by simp)
structure OkF (neg : Bool) (p q : Nat) : Prop where
  pos : 0 < q
  low : Nat.gcd p q = 1
  sign : p = 0 → neg = false
  num : p < 4294967296 ^ 256
  den : q < 4294967296 ^ 256
theorem len_mul' {k p q : Nat} (hp : p < 4294967296 ^ k) (hq : q < 4294967296 ^ k) : (dig (p * q)).length ≤ k + k := by
  have h : p * q < 4294967296 ^ (k + k) := by
    rw [Nat.pow_add]; exact Nat.mul_lt_mul'' hp hq
  exact dig_length_le h
theorem len_mul {p q : Nat} (hp : p < 4294967296 ^ 256) (hq : q < 4294967296 ^ 256) : (dig (p * q)).length ≤ 1073741824 :=
  Nat.le_trans (len_mul' hp hq) (by omega)
set_option maxRecDepth 100000 in
set_option maxHeartbeats 4000000 in
theorem ref_Cmp (u v : Value) (n1 n2 : Bool) (p1 q1 p2 q2 : Nat) (w : World) (hu : RdF w u n1 p1 q1) (hv : RdF w v n2 p2 q2) (ok1 : OkF n1 p1 q1) (ok2 : OkF n2 p2 q2) :
  Calls Tryz.prog 17 #[u, v] w (Ret w (.int .i64 (isgn (zF n1 p1 * (q2 : Int)) (zF n2 p2 * (q1 : Int))))) := by
 have HV1 := hid (fun W (hb : Below w.heap.size w W) => ref_Valid u n1 p1 q1 W (hu.kept hb) ok1.pos ok1.low ok1.sign ok1.num ok1.den)
 have HV2 := hid (fun W (hb : Below w.heap.size w W) => ref_Valid v n2 p2 q2 W (hv.kept hb) ok2.pos ok2.low ok2.sign ok2.num ok2.den)
 obtain ⟨a1, c1, b1, d1, rfl, ha1, hb1⟩ := hu
 obtain ⟨a2, c2, b2, d2, rfl, ha2, hb2⟩ := hv
 have zq : ∀ (W : World) (b : Option Addr) (d q : Nat), Rd32 W (.slice b (dig q).length d) (dig q) → RdZ W (.agg #[.bool false, .slice b (dig q).length d]) (q : Int) := fun W b d q h =>
  ⟨b, d, by rw [show decide ((q : Int) < 0) = false from by simp, Int.natAbs_natCast], by rw [Int.natAbs_natCast]; exact h⟩
 have zp : ∀ (W : World) (neg : Bool) (a : Option Addr) (c p : Nat), (p = 0 → neg = false) → Rd32 W (.slice a (dig p).length c) (dig p) → RdZ W (.agg #[.bool neg, .slice a (dig p).length c]) (zF neg p) := fun W neg a c p hs h =>
  ⟨a, c, by rw [zF_neg hs, zF_natAbs], by rw [zF_natAbs]; exact h⟩
 have hlp1 := Nat.le_trans (dig_length_le ok1.num) (show 256 ≤ 1073741824 by omega)
 have hlp2 := Nat.le_trans (dig_length_le ok2.num) (show 256 ≤ 1073741824 by omega)
 have hlq1 := Nat.le_trans (dig_length_le ok1.den) (show 256 ≤ 1073741824 by omega)
 have hlq2 := Nat.le_trans (dig_length_le ok2.den) (show 256 ≤ 1073741824 by omega)
 have HT1 := hid (fun W (hb : Below w.heap.size w W) => ref_Times _ _ _ _ W (zp W n1 a1 c1 p1 ok1.sign (ha1.kept hb)) (zq W b2 d2 q2 (hb2.kept hb)) (by rw [zF_natAbs]; exact hlp1) (by rw [Int.natAbs_natCast]; exact hlq2))
 have HT2 := hid (fun W (hb : Below w.heap.size w W) => ref_Times _ _ _ _ W (zp W n2 a2 c2 p2 ok2.sign (ha2.kept hb)) (zq W b1 d1 q1 (hb1.kept hb)) (by rw [zF_natAbs]; exact hlp2) (by rw [Int.natAbs_natCast]; exact hlq1))
 have hlx : (dig (zF n1 p1 * (q2 : Int)).natAbs).length ≤ 1073741824 := by rw [Int.natAbs_mul, zF_natAbs, Int.natAbs_natCast]; exact len_mul ok1.num ok2.den
 have hly : (dig (zF n2 p2 * (q1 : Int)).natAbs).length ≤ 1073741824 := by rw [Int.natAbs_mul, zF_natAbs, Int.natAbs_natCast]; exact len_mul ok2.num ok1.den
 clear zq zp ha1 hb1 ha2 hb2 hlp1 hlp2 hlq1 hlq2 ok1 ok2
 generalize zF n1 p1 * (q2 : Int) = x at *
 generalize zF n2 p2 * (q1 : Int) = y at *
 have HM := hid (fun W a c (h : Rd32 W _ _) => ref_Minus a c y W h)
 have hlm : (dig (-y).natAbs).length ≤ 1073741824 := by rw [Int.natAbs_neg]; exact hly
 have hF : isgn x y = if x + -y = 0 then 0 else if x + -y < 0 then -1 else 1 := by
  by_cases h : x < y
  ·rw [isgn_lt h, if_neg (by omega), if_pos (by omega)]
  ·by_cases h2 : y < x
   ·rw [isgn_gt h2, if_neg (by omega), if_neg (by omega)]
   ·rw [isgn_eq (by omega), if_pos (by omega)]
 generalize -y = m at *
 have HP := hid (fun W u v hu hv => ref_Plus u v x m W hu hv hlx hlm)
 generalize x + m = t at *
 have HF := hid hF
 clear hF
 generalize isgn x y = F at *
 clear hlx hly hlm
 have HL := @dig_length_pos t.natAbs
 generalize (dig p1).length = L1 at *
 generalize (dig p2).length = L2 at *
 generalize (dig q1).length = M1 at *
 generalize (dig q2).length = M2 at *
 have HLL := hid HL
 clear HL
 go_enter Tryz.func17, Tryz.ntmps17
 go_wp2_with fail
 refine (HV1.out _ (by repeat' (first | (with_reducible exact Below.refl _ _) | (with_reducible assumption) | (with_reducible refine below_drewN ?_) | (with_reducible refine Below.alloc ?_ ?_ _) | (with_reducible refine Below.drew ?_) | (with_reducible refine Below.setCell ?_ ?_ _) | (with_reducible refine Below.trans ?_ (Below.mono (by with_reducible assumption) ?_)) | go_size))).mono ?_
 rintro e w1 ⟨rfl, hb1⟩
 have hA1 : Below w.heap.size w w1 := by repeat' (first | (with_reducible exact Below.refl _ _) | (with_reducible assumption) | (with_reducible refine below_drewN ?_) | (with_reducible refine Below.alloc ?_ ?_ _) | (with_reducible refine Below.drew ?_) | (with_reducible refine Below.setCell ?_ ?_ _) | (with_reducible refine Below.trans ?_ (Below.mono (by with_reducible assumption) ?_)) | go_size)
 have HA1 := hid hA1
 have hz1 := hb1.size
 have k0 := cell_later hb1 (a := ⟨w.heap.size, 0, none⟩) (v := .bool n1) (by go_cell)
 have k1 := cell_later hb1 (a := ⟨w.heap.size, 1, none⟩) (v := .slice a1 L1 c1) (by go_cell)
 have k2 := cell_later hb1 (a := ⟨w.heap.size, 2, none⟩) (v := .bool false) (by go_cell)
 have k3 := cell_later hb1 (a := ⟨w.heap.size, 3, none⟩) (v := .slice b1 M1 d1) (by go_cell)
 have k4 := cell_later hb1 (a := ⟨w.heap.size + 1, 0, none⟩) (v := .bool n2) (by go_cell)
 have k5 := cell_later hb1 (a := ⟨w.heap.size + 1, 1, none⟩) (v := .slice a2 L2 c2) (by go_cell)
 have k6 := cell_later hb1 (a := ⟨w.heap.size + 1, 2, none⟩) (v := .bool false) (by go_cell)
 have k7 := cell_later hb1 (a := ⟨w.heap.size + 1, 3, none⟩) (v := .slice b2 M2 d2) (by go_cell)
 clear hb1 hA1
 simp at hz1
 go_wp2_with fail
 refine (HV2.out _ HA1.out).mono ?_
 rintro e w2 ⟨rfl, hb2⟩
 have hz2 := hb2.size
 have j0 := cell_later hb2 k0
 have j1 := cell_later hb2 k1
 have j2 := cell_later hb2 k2
 have j3 := cell_later hb2 k3
 have j4 := cell_later hb2 k4
 have j5 := cell_later hb2 k5
 have j6 := cell_later hb2 k6
 have j7 := cell_later hb2 k7
 have hA2 : Below w.heap.size w w2 := by have h := HA1.out; repeat' (first | (with_reducible exact Below.refl _ _) | (with_reducible assumption) | (with_reducible refine below_drewN ?_) | (with_reducible refine Below.alloc ?_ ?_ _) | (with_reducible refine Below.drew ?_) | (with_reducible refine Below.setCell ?_ ?_ _) | (with_reducible refine Below.trans ?_ (Below.mono (by with_reducible assumption) ?_)) | go_size)
 clear hb2
 go_wp2_with fail
 go_region_held3 (fun w' => w'.cell? ⟨w.heap.size, 0, none⟩ = some (.bool n1) ∧ w'.cell? ⟨w.heap.size, 1, none⟩ = some (.slice a1 L1 c1) ∧ w'.cell? ⟨w.heap.size, 2, none⟩ = some (.bool false) ∧ w'.cell? ⟨w.heap.size, 3, none⟩ = some (.slice b1 M1 d1) ∧ w'.cell? ⟨w.heap.size + 1, 0, none⟩ = some (.bool n2) ∧ w'.cell? ⟨w.heap.size + 1, 1, none⟩ = some (.slice a2 L2 c2) ∧ w'.cell? ⟨w.heap.size + 1, 2, none⟩ = some (.bool false) ∧ w'.cell? ⟨w.heap.size + 1, 3, none⟩ = some (.slice b2 M2 d2)) (first | exact ⟨j0, j1, j2, j3, j4, j5, j6, j7⟩ | exact ⟨km0, km1, km2, km3, km4, km5, km6, km7⟩ | exact ⟨kn0, kn1, kn2, kn3, kn4, kn5, kn6, kn7⟩ | exact ⟨ko0, ko1, ko2, ko3, ko4, ko5, ko6, ko7⟩ | exact ⟨kp0, kp1, kp2, kp3, kp4, kp5, kp6, kp7⟩ | (refine ⟨?_, ?_, ?_, ?_, ?_, ?_, ?_, ?_⟩ <;> (rw [World.cell?_setCell_other _ _ _ _ (by intro h; injection h with h; omega), World.cell?_setCell_other _ _ _ _ (by intro h; injection h with h; omega)]; assumption)) | go_keep)
  (first
   | (go_at_call_of 62 (c2); go_must (((with_reducible refine (HT2.out _ (by repeat' (first | (with_reducible exact Below.refl _ _) | (with_reducible assumption) | (with_reducible refine below_drewN ?_) | (with_reducible refine Below.alloc ?_ ?_ _) | (with_reducible refine Below.drew ?_) | (with_reducible refine Below.setCell ?_ ?_ _) | (with_reducible refine Below.trans ?_ (Below.mono (by with_reducible assumption) ?_)) | go_size))).mono ?_); rintro e w4 ⟨ua, uc, rfl, hr1, hr2, hb4⟩; have HU1 := hid hr1; have hz4 := hb4.size; clear hr1 hr2; (try simp at hz4); have kn0 := cell_later hb4 (a := ⟨w.heap.size, 0, none⟩) (v := .bool n1) (by go_cell); have kn1 := cell_later hb4 (a := ⟨w.heap.size, 1, none⟩) (v := .slice a1 L1 c1) (by go_cell); have kn2 := cell_later hb4 (a := ⟨w.heap.size, 2, none⟩) (v := .bool false) (by go_cell); have kn3 := cell_later hb4 (a := ⟨w.heap.size, 3, none⟩) (v := .slice b1 M1 d1) (by go_cell); have kn4 := cell_later hb4 (a := ⟨w.heap.size + 1, 0, none⟩) (v := .bool n2) (by go_cell); have kn5 := cell_later hb4 (a := ⟨w.heap.size + 1, 1, none⟩) (v := .slice a2 L2 c2) (by go_cell); have kn6 := cell_later hb4 (a := ⟨w.heap.size + 1, 2, none⟩) (v := .bool false) (by go_cell); have kn7 := cell_later hb4 (a := ⟨w.heap.size + 1, 3, none⟩) (v := .slice b2 M2 d2) (by go_cell); (first | (have fz0 := frozen_later hb4 z0 fz0; have fz1 := frozen_later hb4 z1 fz1; have z0 := cell_later hb4 z0; have z1 := cell_later hb4 z1) | (have z0 := new_later hb4 (i := 0) rfl; have z1 := new_later hb4 (i := 1) rfl; have fz0 := fnew_later hb4 0; have fz1 := fnew_later hb4 1) | (have z0 := new_later_drew hb4 (i := 0) rfl; have z1 := new_later_drew hb4 (i := 1) rfl; have fz0 := fnew_later_drew hb4 0; have fz1 := fnew_later_drew hb4 1) | skip))))
   | (go_at_call_of 62 (c1); go_must (((with_reducible refine (HT1.out _ (by repeat' (first | (with_reducible exact Below.refl _ _) | (with_reducible assumption) | (with_reducible refine below_drewN ?_) | (with_reducible refine Below.alloc ?_ ?_ _) | (with_reducible refine Below.drew ?_) | (with_reducible refine Below.setCell ?_ ?_ _) | (with_reducible refine Below.trans ?_ (Below.mono (by with_reducible assumption) ?_)) | go_size))).mono ?_); rintro e w3 ⟨ta, tc, rfl, hr1, hr2, hb3⟩; have HR1 := hid hr1; have hz3 := hb3.size; clear hr1 hr2; (try simp at hz3); have km0 := cell_later hb3 (a := ⟨w.heap.size, 0, none⟩) (v := .bool n1) (by go_cell); have km1 := cell_later hb3 (a := ⟨w.heap.size, 1, none⟩) (v := .slice a1 L1 c1) (by go_cell); have km2 := cell_later hb3 (a := ⟨w.heap.size, 2, none⟩) (v := .bool false) (by go_cell); have km3 := cell_later hb3 (a := ⟨w.heap.size, 3, none⟩) (v := .slice b1 M1 d1) (by go_cell); have km4 := cell_later hb3 (a := ⟨w.heap.size + 1, 0, none⟩) (v := .bool n2) (by go_cell); have km5 := cell_later hb3 (a := ⟨w.heap.size + 1, 1, none⟩) (v := .slice a2 L2 c2) (by go_cell); have km6 := cell_later hb3 (a := ⟨w.heap.size + 1, 2, none⟩) (v := .bool false) (by go_cell); have km7 := cell_later hb3 (a := ⟨w.heap.size + 1, 3, none⟩) (v := .slice b2 M2 d2) (by go_cell); (first | (have z0 := new_later hb3 (i := 0) rfl; have z1 := new_later hb3 (i := 1) rfl; have fz0 := fnew_later hb3 0; have fz1 := fnew_later hb3 1) | (have z0 := new_later_drew hb3 (i := 0) rfl; have z1 := new_later_drew hb3 (i := 1) rfl; have fz0 := fnew_later_drew hb3 0; have fz1 := fnew_later_drew hb3 1) | skip))))
   | (go_at_call 63; go_must (((with_reducible refine (HM.out _ _ _ (HU1.out.kept (by repeat' (first | (with_reducible exact Below.refl _ _) | (with_reducible assumption) | (with_reducible refine below_drewN ?_) | (with_reducible refine Below.alloc ?_ ?_ _) | (with_reducible refine Below.drew ?_) | (with_reducible refine Below.setCell ?_ ?_ _) | (with_reducible refine Below.trans ?_ (Below.mono (by with_reducible assumption) ?_)) | go_size)))).mono ?_); rintro e w5 ⟨va, vc, rfl, hr1, hr2, hb5⟩; have HV1 := hid hr1; have hz5 := hb5.size; clear hr1 hr2; (try simp at hz5); have ko0 := cell_later hb5 (a := ⟨w.heap.size, 0, none⟩) (v := .bool n1) (by go_cell); have ko1 := cell_later hb5 (a := ⟨w.heap.size, 1, none⟩) (v := .slice a1 L1 c1) (by go_cell); have ko2 := cell_later hb5 (a := ⟨w.heap.size, 2, none⟩) (v := .bool false) (by go_cell); have ko3 := cell_later hb5 (a := ⟨w.heap.size, 3, none⟩) (v := .slice b1 M1 d1) (by go_cell); have ko4 := cell_later hb5 (a := ⟨w.heap.size + 1, 0, none⟩) (v := .bool n2) (by go_cell); have ko5 := cell_later hb5 (a := ⟨w.heap.size + 1, 1, none⟩) (v := .slice a2 L2 c2) (by go_cell); have ko6 := cell_later hb5 (a := ⟨w.heap.size + 1, 2, none⟩) (v := .bool false) (by go_cell); have ko7 := cell_later hb5 (a := ⟨w.heap.size + 1, 3, none⟩) (v := .slice b2 M2 d2) (by go_cell); (first | (have fz0 := frozen_later hb5 z0 fz0; have fz1 := frozen_later hb5 z1 fz1; have z0 := cell_later hb5 z0; have z1 := cell_later hb5 z1) | (have z0 := new_later hb5 (i := 0) rfl; have z1 := new_later hb5 (i := 1) rfl; have fz0 := fnew_later hb5 0; have fz1 := fnew_later hb5 1) | (have z0 := new_later_drew hb5 (i := 0) rfl; have z1 := new_later_drew hb5 (i := 1) rfl; have fz0 := fnew_later_drew hb5 0; have fz1 := fnew_later_drew hb5 1) | skip))))
   | (go_at_call 61; go_must (((with_reducible refine (HP.out _ _ _ (rdZ_mk (HR1.out.kept (by repeat' (first | (with_reducible exact Below.refl _ _) | (with_reducible assumption) | (with_reducible refine below_drewN ?_) | (with_reducible refine Below.alloc ?_ ?_ _) | (with_reducible refine Below.drew ?_) | (with_reducible refine Below.setCell ?_ ?_ _) | (with_reducible refine Below.trans ?_ (Below.mono (by with_reducible assumption) ?_)) | go_size)))) (rdZ_mk (HV1.out.kept (by repeat' (first | (with_reducible exact Below.refl _ _) | (with_reducible assumption) | (with_reducible refine below_drewN ?_) | (with_reducible refine Below.alloc ?_ ?_ _) | (with_reducible refine Below.drew ?_) | (with_reducible refine Below.setCell ?_ ?_ _) | (with_reducible refine Below.trans ?_ (Below.mono (by with_reducible assumption) ?_)) | go_size))))).mono ?_); rintro e w6 ⟨xa, xc, rfl, hr1, hr2, hb6⟩; have HW1 := hid hr1; have hz6 := hb6.size; clear hr1 hr2; (try simp at hz6); have kp0 := cell_later hb6 (a := ⟨w.heap.size, 0, none⟩) (v := .bool n1) (by go_cell); have kp1 := cell_later hb6 (a := ⟨w.heap.size, 1, none⟩) (v := .slice a1 L1 c1) (by go_cell); have kp2 := cell_later hb6 (a := ⟨w.heap.size, 2, none⟩) (v := .bool false) (by go_cell); have kp3 := cell_later hb6 (a := ⟨w.heap.size, 3, none⟩) (v := .slice b1 M1 d1) (by go_cell); have kp4 := cell_later hb6 (a := ⟨w.heap.size + 1, 0, none⟩) (v := .bool n2) (by go_cell); have kp5 := cell_later hb6 (a := ⟨w.heap.size + 1, 1, none⟩) (v := .slice a2 L2 c2) (by go_cell); have kp6 := cell_later hb6 (a := ⟨w.heap.size + 1, 2, none⟩) (v := .bool false) (by go_cell); have kp7 := cell_later hb6 (a := ⟨w.heap.size + 1, 3, none⟩) (v := .slice b2 M2 d2) (by go_cell); (first | (have fz0 := frozen_later hb6 z0 fz0; have fz1 := frozen_later hb6 z1 fz1; have z0 := cell_later hb6 z0; have z1 := cell_later hb6 z1) | (have z0 := new_later hb6 (i := 0) rfl; have z1 := new_later hb6 (i := 1) rfl; have fz0 := fnew_later hb6 0; have fz1 := fnew_later hb6 1) | (have z0 := new_later_drew hb6 (i := 0) rfl; have z1 := new_later_drew hb6 (i := 1) rfl; have fz0 := fnew_later_drew hb6 0; have fz1 := fnew_later_drew hb6 1) | skip)))))
 all_goals
  have hL3 := HLL.out
  generalize hst : decide (t < 0) = st at *
  generalize (dig t.natAbs).length = LT at *
  rcases (show t = 0 ∨ t < 0 ∨ 0 < t by omega) with h | h | h
  ·obtain rfl : LT = 0 := by omega
   have H := hid h
   clear hL3 h hst HLL
   go_wp2
   go_ret
   exact ⟨ret_int (by rw [HF.out, if_pos H.out]), by repeat' (first | (with_reducible exact Below.refl _ _) | (with_reducible assumption) | (with_reducible refine below_drewN ?_) | (with_reducible refine Below.alloc ?_ ?_ _) | (with_reducible refine Below.drew ?_) | (with_reducible refine Below.setCell ?_ ?_ _) | (with_reducible refine Below.trans ?_ (Below.mono (by with_reducible assumption) ?_)) | go_size)⟩
  ·have hne : ((LT : Int) == 0) = false := by simp; omega
   obtain rfl : true = st := by rw [← hst]; simp [h]
   have H := hid h
   clear hL3 h hst HLL
   go_wp2
   go_ret
   exact ⟨ret_int (by rw [HF.out, if_neg (by have := H.out; omega), if_pos H.out]), by repeat' (first | (with_reducible exact Below.refl _ _) | (with_reducible assumption) | (with_reducible refine below_drewN ?_) | (with_reducible refine Below.alloc ?_ ?_ _) | (with_reducible refine Below.drew ?_) | (with_reducible refine Below.setCell ?_ ?_ _) | (with_reducible refine Below.trans ?_ (Below.mono (by with_reducible assumption) ?_)) | go_size)⟩
  ·have hne : ((LT : Int) == 0) = false := by simp; omega
   obtain rfl : false = st := by rw [← hst]; simp; omega
   have H := hid h
   clear hL3 h hst HLL
   go_wp2
   go_ret
   exact ⟨ret_int (by rw [HF.out, if_neg (by have := H.out; omega), if_neg (by have := H.out; omega)]), by repeat' (first | (with_reducible exact Below.refl _ _) | (with_reducible assumption) | (with_reducible refine below_drewN ?_) | (with_reducible refine Below.alloc ?_ ?_ _) | (with_reducible refine Below.drew ?_) | (with_reducible refine Below.setCell ?_ ?_ _) | (with_reducible refine Below.trans ?_ (Below.mono (by with_reducible assumption) ?_)) | go_size)⟩
end Go.Proofs.YtikiimlmoalbcaaGreatDoor.Fr

namespace Go.Proofs.YtikiimlmoalbcaaGreatDoor.Fr
open Go.RowKit
def dtext (n : Nat) : ByteArray := ⟨#[UInt8.ofNat (48 + n)]⟩
theorem dtext_ne : ∀ n, n < 10 → (dtext n).toList.isEmpty = false := by decide +kernel
set_option maxRecDepth 100000 in
set_option maxHeartbeats 2000000 in
theorem ref_TextBig1 (n : Nat) (a : Option Addr) (c : Nat) (w : World) (hx : Rd32 w (.slice a (dig n).length c) (dig n)) (hn : n < 10) :
  Calls Tryz.prog 96 #[.agg #[.bool false, .slice a (dig n).length c]] w (Ret w (.string (dtext n))) := by
 obtain ⟨i0, hi, hz0, hz1, hz2⟩ := info_parts info_u32
 have hl1 : (dig n).length ≤ 1 := dig_length_le (k := 1) (by omega)
 have hV := fun W (hb : Below w.heap.size w W) => ref_ValidBig (.agg #[.bool false, .slice a (dig n).length c]) false (dig n) W ⟨a, c, rfl, hx.kept hb⟩
 rw [okBig_false n (by omega)] at hV
 have HV := hid hV
 have HX := hid hx
 have HD := hid (digs_dig n)
 have HP := @dig_length_pos n
 clear hV hx
 by_cases h0 : n = 0
 ·generalize (dig n).length = L at *
  obtain rfl : L = 0 := by omega
  subst h0
  clear HP HX HD hl1
  go_enter Tryz.func96, Tryz.ntmps96
  go_wp2_with fail
  with_reducible refine (HV.out _ (by repeat' (first | (with_reducible exact Below.refl _ _) | (with_reducible assumption) | (with_reducible refine below_drewN ?_) | (with_reducible refine Below.alloc ?_ ?_ _) | (with_reducible refine Below.drew ?_) | (with_reducible refine Below.setCell ?_ ?_ _) | (with_reducible refine Below.trans ?_ (Below.mono (by with_reducible assumption) ?_)) | go_size))).mono ?_
  rintro e w1 ⟨rfl, hb1⟩
  have hz1' := hb1.size
  have k0 := cell_later hb1 (a := ⟨w.heap.size, 0, none⟩) (v := .bool false) (by go_cell)
  have k1 := cell_later hb1 (a := ⟨w.heap.size, 1, none⟩) (v := .slice a 0 c) (by go_cell)
  have hA1 : Below w.heap.size w w1 := by repeat' (first | (with_reducible exact Below.refl _ _) | (with_reducible assumption) | (with_reducible refine below_drewN ?_) | (with_reducible refine Below.alloc ?_ ?_ _) | (with_reducible refine Below.drew ?_) | (with_reducible refine Below.setCell ?_ ?_ _) | (with_reducible refine Below.trans ?_ (Below.mono (by with_reducible assumption) ?_)) | go_size)
  have hown0 : (w1.alloc (.cells #[] 132)).ownsRow w1.heap.size 132 1 (.slice (some ⟨w1.heap.size, 0, none⟩) 0 0) 0 [] := World.ownsRow_made w1 #[] 0 (Nat.le_refl _) (Nat.zero_le _) rfl
  have HOWN := hid hown0
  clear hown0
  clear hb1
  simp at hz1'
  have hlt : w.heap.size < w1.heap.size := by omega
  have hne : w.heap.size ≠ w1.heap.size := by omega
  go_wp2_with (at_builtin; refine wpList_append_any _ rfl _ _ 41 41 rfl w1.heap.size 132 132 i0 (.int .u32 0) 1 4 Tryz.underlying41 Tryz.underlying41 hi hz0 hz1 hz2 rfl (by decide) _ _ _ rfl HOWN.out a 0 c ([].map U32) rfl rfl (fun h => by omega) (u32_one _) (by unfold maxLen; omega) (by omega) (by go_size) ?_)
  intro v' w2 hown hgrow _
  obtain ⟨hr1, hr2, _, a2, c2, rfl⟩ := rd_of_owns (xs := []) hown Digs.nil
  have hA2 : Below w1.heap.size w1 w2 := ((Below.refl _ w1).alloc (Nat.le_refl _) _).grown hgrow (by simp) (fun k hk => (HOWN.out.lt k hk).1)
  have hz2' := hA2.size
  have k2 := cell_later hA2 k0
  have k3 := cell_later hA2 k1
  clear hown hgrow HOWN hr1 hr2
  go_wp2
  refine wp_loop_rounds 1 ?_
  rw [rounds_succ]
  go_wp2
  go_ret
  exact ⟨by rfl, by repeat' (first | (with_reducible exact Below.refl _ _) | (with_reducible assumption) | (with_reducible refine below_drewN ?_) | (with_reducible refine Below.alloc ?_ ?_ _) | (with_reducible refine Below.drew ?_) | (with_reducible refine Below.setCell ?_ ?_ _) | (with_reducible refine Below.trans ?_ (Below.mono (by with_reducible assumption) ?_)) | go_size)⟩
 ·have hdn := dig_one_digit (show 0 < n by omega) (show n < 4294967296 by omega)
  have hbs : bits BinOp.or IntKind.u64 0 (n : Int) = (n : Int) := by
   have := u64_or_nat 0 n (by omega) (by omega)
   rw [show ((0 : Nat) : Int) = 0 from rfl] at this
   rw [this, Nat.zero_or]
  have hq10 : (n : Int) / 10 = 0 := by omega
  have hr10 : (n : Int) % 10 = (n : Int) := by omega
  generalize (dig n).length = L at *
  obtain rfl : L = 1 := by omega
  rw [hdn] at HX HD
  clear HP hl1 hdn
  go_enter Tryz.func96, Tryz.ntmps96
  go_wp2_with fail
  with_reducible refine (HV.out _ (by repeat' (first | (with_reducible exact Below.refl _ _) | (with_reducible assumption) | (with_reducible refine below_drewN ?_) | (with_reducible refine Below.alloc ?_ ?_ _) | (with_reducible refine Below.drew ?_) | (with_reducible refine Below.setCell ?_ ?_ _) | (with_reducible refine Below.trans ?_ (Below.mono (by with_reducible assumption) ?_)) | go_size))).mono ?_
  rintro e w1 ⟨rfl, hb1⟩
  have hz1' := hb1.size
  have k0 := cell_later hb1 (a := ⟨w.heap.size, 0, none⟩) (v := .bool false) (by go_cell)
  have k1 := cell_later hb1 (a := ⟨w.heap.size, 1, none⟩) (v := .slice a 1 c) (by go_cell)
  have hA1 : Below w.heap.size w w1 := by repeat' (first | (with_reducible exact Below.refl _ _) | (with_reducible assumption) | (with_reducible refine below_drewN ?_) | (with_reducible refine Below.alloc ?_ ?_ _) | (with_reducible refine Below.drew ?_) | (with_reducible refine Below.setCell ?_ ?_ _) | (with_reducible refine Below.trans ?_ (Below.mono (by with_reducible assumption) ?_)) | go_size)
  have HS := hid ((HX.out.kept hA1).alloc (o := .cells #[] 132)).src
  have hown0 : (w1.alloc (.cells #[] 132)).ownsRow w1.heap.size 132 1 (.slice (some ⟨w1.heap.size, 0, none⟩) 0 0) 0 [] := World.ownsRow_made w1 #[] 0 (Nat.le_refl _) (Nat.zero_le _) rfl
  have HOWN := hid hown0
  clear hb1 hown0
  simp at hz1'
  have hlt : w.heap.size < w1.heap.size := by omega
  have hne : w.heap.size ≠ w1.heap.size := by omega
  go_wp2_with (at_builtin; refine wpList_append_any _ rfl _ _ 41 41 rfl w1.heap.size 132 132 i0 (.int .u32 0) 1 4 Tryz.underlying41 Tryz.underlying41 hi hz0 hz1 hz2 rfl (by decide) _ _ _ rfl HOWN.out a 1 c ([n].map U32) rfl HS.out.1 HS.out.2 (u32_one _) (by unfold maxLen; omega) (by omega) (by go_size) ?_)
  intro v' w2 hown hgrow _
  obtain ⟨g, cap, rfl, hcap, hcm, hg, hO⟩ := own32_of_owns hown HD.out (by omega)
  obtain ⟨hcz, hfz⟩ := hO.2.2.2 0 (by omega)
  have hO3 := hO.2.2.1
  simp only [List.getD_cons_zero] at hcz
  have hA2 : Below w1.heap.size w1 w2 := ((Below.refl _ w1).alloc (Nat.le_refl _) _).grown hgrow (by simp) (fun k hk => (HOWN.out.lt k hk).1)
  have hz2' := hA2.size
  have k2 := cell_later hA2 k0
  have k3 := cell_later hA2 k1
  have HO := hid hO
  clear hown hgrow HOWN HS hO
  unfold maxLen at hcm
  go_wp2
  refine wp_loop_rounds 2 ?_
  rw [rounds_succ]
  go_wp2
  refine wp_loop_rounds 2 ?_
  rw [rounds_succ]
  go_wp2
  rw [rounds_succ]
  go_wp2
  have hrd : Rd32 (w2.setCell ⟨g, 0, none⟩ (.int .u32 0)) (.slice (some ⟨g, 0, none⟩) 1 cap) [0] := (HO.out.set (show 0 < 1 by omega) (show 0 < 4294967296 by omega)).rd hcap (by unfold maxLen; omega)
  have k4 : (w2.setCell ⟨g, 0, none⟩ (.int .u32 0)).cell? ⟨w.heap.size, 0, none⟩ = some (.bool false) := by
   rw [World.cell?_setCell_other _ _ _ _ (by intro h; injection h with h; omega)]; exact k2
  have hA3 : Below w.heap.size w (w2.setCell ⟨g, 0, none⟩ (.int .u32 0)) := (hA1.trans (hA2.mono (by omega))).setCell (by simp; omega) _
  have hz3' : w2.heap.size = (w2.setCell ⟨g, 0, none⟩ (.int .u32 0)).heap.size := by simp
  have HRD := hid hrd
  rw [hr10]
  have HTR := hid (fun W (h : Rd32 W (.slice (some ⟨g, 0, none⟩) 1 cap) [0]) => ref_trim _ [0] W h)
  have HL0 : Hid ((dig (val [0])).length = 0) := by unfold Hid; rw [show val [0] = 0 from rfl, dig_zero]; rfl
  clear hrd hcz hfz k2 k3
  generalize w2.setCell ⟨g, 0, none⟩ (.int .u32 0) = W2 at *
  have hz4' : w2.heap.size ≤ W2.heap.size := by omega
  have hlt2 : w.heap.size < W2.heap.size := by omega
  clear hz3'
  have hw1 : IntKind.u8.wrap (n : Int) = (n : Int) := by rw [IntKind.wrap_u8]; omega
  have hw2 : IntKind.u8.wrap (48 + (n : Int)) = 48 + (n : Int) := by rw [IntKind.wrap_u8]; omega
  have hconv : ∀ (W : World) (b : Nat), W.cell? ⟨b, 0, none⟩ = some (.int .u8 (48 + (n : Int))) → (convert 22 9 (.slice (some ⟨b, 0, none⟩) 1 1)).run Tryz.prog W = .ok (.string (dtext n)) W := fun W b h => by
   have hcl : ∀ i, i < 1 → W.cell? ⟨b, 0 + i, none⟩ = some (.int .u8 ([48 + (n : Int)].getD i 0)) := fun i hi => by
    obtain rfl : i = 0 := by omega
    exact h
   rw [run_convert_bytes_arg W 22 5 Tryz.underlying22 Tryz.underlying5 b 0 1 1 [48 + (n : Int)] rfl hcl 9 Tryz.underlying9]
   have : (48 + (n : Int)).toNat = 48 + n := by omega
   simp [strOfNums, dtext, this]
  have hcat : dtext n ++ { data := #[] } = dtext n := by apply ByteArray.ext; simp [dtext]
  have hemp : (dtext n).toList.isEmpty = false := dtext_ne n hn
  have hsz : (dtext n).size = 1 := rfl
  have hnew : ∀ (k : Nat) (v : Value) (t : TypeId), ((W2.drewN k).alloc (.cells #[v] t)).cell? ⟨W2.heap.size, 0, none⟩ = some v := fun k v t => World.cell?_alloc_new (W2.drewN k) #[v] t 0
  go_region_with (first | (go_at_call 147; go_must ((refine (HTR.out _ (by first | exact HRD.out.drew | exact HRD.out.alloc.drew)).mono ?_; rintro e w5 ⟨a5, c5, rfl, hv5, ho5, k5, rfl⟩; clear hv5 ho5; rw [HL0.out]))))
  have hk : ∀ (k : Nat) (v : Value) (t : TypeId), ((W2.drewN k).alloc (.cells #[v] t)).cell? ⟨w.heap.size, 0, none⟩ = some (.bool false) := fun k v t => by
   rw [World.cell?_alloc_lt _ _ _ (show w.heap.size < (W2.drewN k).heap.size from hlt2)]; exact k4
  all_goals clear hconv hnew
  all_goals go_wp2
  all_goals rw [rounds_succ]
  all_goals go_wp2
  all_goals go_ret
  all_goals go_goals
  all_goals exact ⟨by rfl, by repeat' (first | (with_reducible exact Below.refl _ _) | (with_reducible assumption) | (with_reducible refine below_drewN ?_) | (with_reducible refine Below.alloc ?_ ?_ _) | (with_reducible refine Below.drew ?_) | (with_reducible refine Below.setCell ?_ ?_ _) | (with_reducible refine Below.trans ?_ (Below.mono (by with_reducible assumption) ?_)) | go_size)⟩
end Go.Proofs.YtikiimlmoalbcaaGreatDoor.Fr

namespace Go.Proofs.YtikiimlmoalbcaaGreatDoor.Fr
open Go.RowKit
def slash : ByteArray := ⟨#[47]⟩
def ftext (p q : Nat) : ByteArray := if q = 1 then dtext p else dtext p ++ slash ++ dtext q
set_option maxRecDepth 100000 in
set_option maxHeartbeats 2000000 in
theorem ref_Text1 (v : Value) (p q : Nat) (w : World) (hv : RdF w v false p q) (ok : OkF false p q) (hp : p < 10) (hq : q < 10) :
  Calls Tryz.prog 47 #[v] w (Ret w (.string (ftext p q))) := by
 have HV := hid (fun W (hb : Below w.heap.size w W) => ref_Valid v false p q W (hv.kept hb) ok.pos ok.low ok.sign ok.num ok.den)
 obtain ⟨a, c, a', c', rfl, h1, h2⟩ := hv
 have HT1 := hid (fun W (hb : Below w.heap.size w W) => ref_TextBig1 p a c W (h1.kept hb) hp)
 have HT2 := hid (fun W (hb : Below w.heap.size w W) => ref_TextBig1 q a' c' W (h2.kept hb) hq)
 have hd1 : dig 1 = [1] := dig_one_digit (by omega) (by omega)
 have HD1 := hid hd1
 have HC1 := hid (fun W v1 (hy : Rd32 W v1 (dig 1)) (hb : Below w.heap.size w W) => ref_cmp _ v1 _ _ W (h2.kept hb) hy)
 have hF1 : q = 1 → ftext p q = dtext p := fun h => by unfold ftext; rw [if_pos h]
 have hF2 : q ≠ 1 → ftext p q = dtext p ++ slash ++ dtext q := fun h => by unfold ftext; rw [if_neg h]
 have HF1 := hid hF1
 have HF2 := hid hF2
 have hs1 : (dtext p).size = 1 := rfl
 have hs2 : (dtext q).size = 1 := rfl
 clear h1 h2 hd1 hF1 hF2
 generalize ftext p q = F at *
 have hsl : (dtext p ++ slash).size = 2 := by rw [ByteArray.size_append]; rfl
 generalize dtext p = P at *
 generalize dtext q = Q at *
 generalize (dig p).length = L at *
 generalize hL' : (dig q).length = L' at *
 clear hL'
 by_cases hq1 : q = 1
 all_goals
  have HQ1 := hid hq1
  go_enter Tryz.func47, Tryz.ntmps47
  go_wp2_with fail
  with_reducible refine (HV.out _ (by repeat' (first | (with_reducible exact Below.refl _ _) | (with_reducible assumption) | (with_reducible refine below_drewN ?_) | (with_reducible refine Below.alloc ?_ ?_ _) | (with_reducible refine Below.drew ?_) | (with_reducible refine Below.setCell ?_ ?_ _) | (with_reducible refine Below.trans ?_ (Below.mono (by with_reducible assumption) ?_)) | go_size))).mono ?_
  rintro e w1 ⟨rfl, hb1⟩
  have hz1 := hb1.size
  have k0 := cell_later hb1 (a := ⟨w.heap.size, 0, none⟩) (v := .bool false) (by go_cell)
  have k1 := cell_later hb1 (a := ⟨w.heap.size, 1, none⟩) (v := .slice a L c) (by go_cell)
  have k2 := cell_later hb1 (a := ⟨w.heap.size, 2, none⟩) (v := .bool false) (by go_cell)
  have k3 := cell_later hb1 (a := ⟨w.heap.size, 3, none⟩) (v := .slice a' L' c') (by go_cell)
  have hA1 : Below w.heap.size w w1 := by repeat' (first | (with_reducible exact Below.refl _ _) | (with_reducible assumption) | (with_reducible refine below_drewN ?_) | (with_reducible refine Below.alloc ?_ ?_ _) | (with_reducible refine Below.drew ?_) | (with_reducible refine Below.setCell ?_ ?_ _) | (with_reducible refine Below.trans ?_ (Below.mono (by with_reducible assumption) ?_)) | go_size)
  clear hb1
  simp at hz1
  go_wp2_with fail
  have hn1 : Rd32 (w1.alloc (.cells #[.int .u32 1] 132)) (.slice (some ⟨w1.heap.size, 0, none⟩) 1 1) [1] := Rd32.new1 w1 1 132 w1.heap.size rfl (by omega)
  rw [← HD1.out] at hn1
  have hcc := HC1.out _ _ hn1 (hA1.alloc (by omega) _)
  rw [cmpL_dig] at hcc
  have HCC := hid hcc
  clear hcc hn1
  with_reducible refine HCC.out.mono ?_
  rintro e w2 ⟨rfl, k2', rfl⟩
  have hlt : w.heap.size < w1.heap.size := by omega
  have hne : w.heap.size ≠ w1.heap.size := by omega
  clear hq1
 ·have hsg : sgn q 1 = 0 := sgn_zero.2 HQ1.out
  generalize sgn q 1 = sg at *
  subst hsg
  have j1 : ∀ k, (((w1.alloc (.cells #[.int .u32 1] 132)).drewN k)).cell? ⟨w.heap.size, 0, none⟩ = some (.bool false) := fun k => by
   rw [World.cell?_drewN, World.cell?_alloc_lt _ _ _ hlt]; exact k0
  go_wp2_with fail
  with_reducible refine (HT1.out _ (by repeat' (first | (with_reducible exact Below.refl _ _) | (with_reducible assumption) | (with_reducible refine below_drewN ?_) | (with_reducible refine Below.alloc ?_ ?_ _) | (with_reducible refine Below.drew ?_) | (with_reducible refine Below.setCell ?_ ?_ _) | (with_reducible refine Below.trans ?_ (Below.mono (by with_reducible assumption) ?_)) | go_size))).mono ?_
  rintro e w3 ⟨rfl, hb3⟩
  go_wp2
  go_ret
  exact ⟨by rw [HF1.out HQ1.out]; rfl, by repeat' (first | (with_reducible exact Below.refl _ _) | (with_reducible assumption) | (with_reducible refine below_drewN ?_) | (with_reducible refine Below.alloc ?_ ?_ _) | (with_reducible refine Below.drew ?_) | (with_reducible refine Below.setCell ?_ ?_ _) | (with_reducible refine Below.trans ?_ (Below.mono (by with_reducible assumption) ?_)) | go_size)⟩
 ·have hsg : ¬ sgn q 1 = 0 := fun h => HQ1.out (sgn_zero.1 h)
  have hsb : (sgn q 1 == 0) = false := by simpa using hsg
  generalize sgn q 1 = sg at *
  clear hsg
  go_wp2
  have m0 : ((w1.alloc (.cells #[.int .u32 1] 132)).drewN k2').cell? ⟨w.heap.size, 0, none⟩ = some (.bool false) := by rw [World.cell?_drewN, World.cell?_alloc_lt _ _ _ hlt]; exact k0
  have m1 : ((w1.alloc (.cells #[.int .u32 1] 132)).drewN k2').cell? ⟨w.heap.size, 1, none⟩ = some (.slice a L c) := by rw [World.cell?_drewN, World.cell?_alloc_lt _ _ _ hlt]; exact k1
  have m2 : ((w1.alloc (.cells #[.int .u32 1] 132)).drewN k2').cell? ⟨w.heap.size, 2, none⟩ = some (.bool false) := by rw [World.cell?_drewN, World.cell?_alloc_lt _ _ _ hlt]; exact k2
  have m3 : ((w1.alloc (.cells #[.int .u32 1] 132)).drewN k2').cell? ⟨w.heap.size, 3, none⟩ = some (.slice a' L' c') := by rw [World.cell?_drewN, World.cell?_alloc_lt _ _ _ hlt]; exact k3
  have hA2 : Below w.heap.size w ((w1.alloc (.cells #[.int .u32 1] 132)).drewN k2') := by repeat' (first | (with_reducible exact Below.refl _ _) | (with_reducible assumption) | (with_reducible refine below_drewN ?_) | (with_reducible refine Below.alloc ?_ ?_ _) | (with_reducible refine Below.drew ?_) | (with_reducible refine Below.setCell ?_ ?_ _) | (with_reducible refine Below.trans ?_ (Below.mono (by with_reducible assumption) ?_)) | go_size)
  have hz2 : w1.heap.size + 1 = ((w1.alloc (.cells #[.int .u32 1] 132)).drewN k2').heap.size := by simp
  generalize (w1.alloc (.cells #[.int .u32 1] 132)).drewN k2' = W at *
  have hz3 : w1.heap.size + 1 ≤ W.heap.size := by omega
  clear hz2 k0 k1 k2 k3
  go_region_held3 (fun w' => w'.cell? ⟨w.heap.size, 0, none⟩ = some (.bool false) ∧ w'.cell? ⟨w.heap.size, 1, none⟩ = some (.slice a L c) ∧ w'.cell? ⟨w.heap.size, 2, none⟩ = some (.bool false) ∧ w'.cell? ⟨w.heap.size, 3, none⟩ = some (.slice a' L' c')) (first | exact ⟨m0, m1, m2, m3⟩ | exact ⟨n0, n1, n2, n3⟩ | exact ⟨o0, o1, o2, o3⟩ | go_keep)
   (first
    | (go_at_call_of 96 (c); go_must (((with_reducible refine (HT1.out _ (by repeat' (first | (with_reducible exact Below.refl _ _) | (with_reducible assumption) | (with_reducible refine below_drewN ?_) | (with_reducible refine Below.alloc ?_ ?_ _) | (with_reducible refine Below.drew ?_) | (with_reducible refine Below.setCell ?_ ?_ _) | (with_reducible refine Below.trans ?_ (Below.mono (by with_reducible assumption) ?_)) | go_size))).mono ?_); rintro e w4 ⟨rfl, hb4⟩; have hz4 := hb4.size; (try simp at hz4); have n0 := cell_later hb4 (a := ⟨w.heap.size, 0, none⟩) (v := .bool false) (by go_cell); have n1 := cell_later hb4 (a := ⟨w.heap.size, 1, none⟩) (v := .slice a L c) (by go_cell); have n2 := cell_later hb4 (a := ⟨w.heap.size, 2, none⟩) (v := .bool false) (by go_cell); have n3 := cell_later hb4 (a := ⟨w.heap.size, 3, none⟩) (v := .slice a' L' c') (by go_cell))))
    | (go_at_call_of 96 (c'); go_must (((with_reducible refine (HT2.out _ (by repeat' (first | (with_reducible exact Below.refl _ _) | (with_reducible assumption) | (with_reducible refine below_drewN ?_) | (with_reducible refine Below.alloc ?_ ?_ _) | (with_reducible refine Below.drew ?_) | (with_reducible refine Below.setCell ?_ ?_ _) | (with_reducible refine Below.trans ?_ (Below.mono (by with_reducible assumption) ?_)) | go_size))).mono ?_); rintro e w5 ⟨rfl, hb5⟩; have hz5 := hb5.size; (try simp at hz5); have o0 := cell_later hb5 (a := ⟨w.heap.size, 0, none⟩) (v := .bool false) (by go_cell); have o1 := cell_later hb5 (a := ⟨w.heap.size, 1, none⟩) (v := .slice a L c) (by go_cell); have o2 := cell_later hb5 (a := ⟨w.heap.size, 2, none⟩) (v := .bool false) (by go_cell); have o3 := cell_later hb5 (a := ⟨w.heap.size, 3, none⟩) (v := .slice a' L' c') (by go_cell)))))
  all_goals go_wp2
  all_goals go_goals
  all_goals go_ret
  all_goals exact ⟨by rw [HF2.out HQ1.out]; rfl, by repeat' (first | (with_reducible exact Below.refl _ _) | (with_reducible assumption) | (with_reducible refine below_drewN ?_) | (with_reducible refine Below.alloc ?_ ?_ _) | (with_reducible refine Below.drew ?_) | (with_reducible refine Below.setCell ?_ ?_ _) | (with_reducible refine Below.trans ?_ (Below.mono (by with_reducible assumption) ?_)) | go_size)⟩
end Go.Proofs.YtikiimlmoalbcaaGreatDoor.Fr
