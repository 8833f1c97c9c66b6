/- Contract of fraction.Cmp at short fractions. -/
import Derived.Test.YtikiimlmoalbcaaGreatDoorOOtay
set_option linter.unusedVariables false
set_option linter.unusedSimpArgs false
namespace Go.Proofs.YtikiimlmoalbcaaGreatDoor.Fr
open Go.RowKit
theorem RdB.kept {W W' : World} {v : Value} {neg : Bool} {xs : List Nat} (h : RdB W v neg xs) (hb : Below W.heap.size W W') : RdB W' v neg xs := by
  obtain ⟨a, c, e, h1⟩ := h
  exact ⟨a, c, e, h1.kept hb⟩
theorem belowT {w W W' : World} (h1 : Below w.heap.size w W) (h2 : Below W.heap.size W W') : Below w.heap.size w W' := h1.trans (h2.mono h1.size)
structure Sml (p q : Nat) : Prop where
  num : p < 4294967296
  pos : 0 < q
  den : q < 4294967296
  low : Nat.gcd p q = 1
set_option maxRecDepth 100000 in
set_option maxHeartbeats 4000000 in
theorem frac_Cmp (u v : Value) (p1 q1 p2 q2 : Nat) (w : World) (hu : RdF w u false p1 q1) (hv : RdF w v false p2 q2) (s1 : Sml p1 q1) (s2 : Sml p2 q2) (h1 : OneAt w) :
  Calls Tryz.prog 84 #[u, v] w (Ret w (.int .i64 (sgn (p1 * q2) (p2 * q1)))) := by
 have HV1 := hid (fun W (hW : Below w.heap.size w W) => frac_Valid u p1 q1 W (hu.kept hW) s1.num s1.pos s1.den s1.low (h1.below hW))
 have HV2 := hid (fun W (hW : Below w.heap.size w W) => frac_Valid v p2 q2 W (hv.kept hW) s2.num s2.pos s2.den s2.low (h1.below hW))
 have hdl : ∀ n, n < 18446744073709551616 → (dig n).length ≤ 2 := fun n hn => dig_length_le (k := 2) (by omega)
 have hm1 : p1 * q2 < 18446744073709551616 := by have := Nat.mul_lt_mul'' s1.num s2.den; omega
 have hm2 : p2 * q1 < 18446744073709551616 := by have := Nat.mul_lt_mul'' s2.num s1.den; omega
 obtain ⟨a1, c1, b1, d1, rfl, hx1, hy1⟩ := hu
 obtain ⟨a2, c2, b2, d2, rfl, hx2, hy2⟩ := hv
 have HP1 := hid (fun W (hW : Below w.heap.size w W) => frac_product (.agg #[.bool false, .slice a1 (dig p1).length c1]) (.agg #[.bool false, .slice b2 (dig q2).length d2]) p1 q2 W ⟨a1, c1, rfl, hx1.kept hW⟩ ⟨b2, d2, rfl, hy2.kept hW⟩ (Nat.le_trans (hdl _ (by have := s1.num; omega)) (by omega)) (Nat.le_trans (hdl _ (by have := s2.den; omega)) (by omega)) (Nat.le_trans (hdl _ hm1) (by omega)))
 have HP2 := hid (fun W (hW : Below w.heap.size w W) => frac_product (.agg #[.bool false, .slice a2 (dig p2).length c2]) (.agg #[.bool false, .slice b1 (dig q1).length d1]) p2 q1 W ⟨a2, c2, rfl, hx2.kept hW⟩ ⟨b1, d1, rfl, hy1.kept hW⟩ (Nat.le_trans (hdl _ (by have := s2.num; omega)) (by omega)) (Nat.le_trans (hdl _ (by have := s1.den; omega)) (by omega)) (Nat.le_trans (hdl _ hm2) (by omega)))
 have HOP := hid (fun W x (h : RdB W x false (dig (p2 * q1))) => frac_opposite x (p2 * q1) W h)
 have HSU := hid (fun W x y (h : RdB W x false (dig (p1 * q2))) (h2 : RdB W y (decide (0 < p2 * q1)) (dig (p2 * q1))) => frac_sum x y (p1 * q2) (p2 * q1) W h h2 hm1 hm2)
 clear hx1 hx2 hy1 hy2 s1 s2 hm1 hm2 hdl h1
 generalize (dig p1).length = l1 at *
 generalize (dig q1).length = k1 at *
 generalize (dig p2).length = l2 at *
 generalize (dig q2).length = k2 at *
 generalize p1 * q2 = X at *
 generalize p2 * q1 = Y at *
 have HX1 := hid ((BoxN.new w #[.bool false, .slice a1 l1 c1, .bool false, .slice b1 k1 d1] 45).alloc (.cells #[.bool false, .slice a2 l2 c2, .bool false, .slice b2 k2 d2] 45))
 have hx2 := BoxN.new (w.alloc (.cells #[.bool false, .slice a1 l1 c1, .bool false, .slice b1 k1 d1] 45)) #[.bool false, .slice a2 l2 c2, .bool false, .slice b2 k2 d2] 45
 rw [World.size_alloc] at hx2
 have HX2 := hid hx2
 have HB0 := hid (((Below.refl w.heap.size w).alloc (Nat.le_refl _) (.cells #[.bool false, .slice a1 l1 c1, .bool false, .slice b1 k1 d1] 45)).alloc (by simp) (.cells #[.bool false, .slice a2 l2 c2, .bool false, .slice b2 k2 d2] 45))
 have hz : ((w.alloc (.cells #[.bool false, .slice a1 l1 c1, .bool false, .slice b1 k1 d1] 45)).alloc (.cells #[.bool false, .slice a2 l2 c2, .bool false, .slice b2 k2 d2] 45)).heap.size = w.heap.size + 2 := by simp
 have HZ := hid hz
 clear hx2 hz
 go_enter Tryz.func84, Tryz.ntmps84
 go_wp2_with fail
 generalize (w.alloc (.cells #[.bool false, .slice a1 l1 c1, .bool false, .slice b1 k1 d1] 45)).alloc (.cells #[.bool false, .slice a2 l2 c2, .bool false, .slice b2 k2 d2] 45) = W0 at *
 with_reducible refine (HV1.out _ HB0.out).mono ?_
 rintro e w1 ⟨rfl, hb1⟩
 have HY1 := hid (HX1.out.below hb1 HX1.out.lt)
 have HY2 := hid (HX2.out.below hb1 HX2.out.lt)
 have HB1 := hid (belowT HB0.out hb1)
 clear hb1 HX1 HX2 HB0
 have c0 := HY2.out.cell 0 rfl
 have c1' := HY2.out.cell 1 rfl
 have c2' := HY2.out.cell 2 rfl
 have c3 := HY2.out.cell 3 rfl
 go_wp2_with fail
 with_reducible refine (HV2.out _ HB1.out).mono ?_
 rintro e w2 ⟨rfl, hb2⟩
 clear c0 c1' c2' c3
 have HX1 := hid (HY1.out.below hb2 HY1.out.lt)
 have HX2 := hid (HY2.out.below hb2 HY2.out.lt)
 have HB0 := hid (belowT HB1.out hb2)
 clear hb2 HY1 HY2 HB1
 go_upto_region 3 with fail
 have HG := hid (fun W (hW : Below w2.heap.size w2 W) => (⟨(HX1.out.below hW HX1.out.lt).cell 0 rfl, (HX1.out.below hW HX1.out.lt).cell 1 rfl, (HX1.out.below hW HX1.out.lt).cell 2 rfl, (HX1.out.below hW HX1.out.lt).cell 3 rfl, (HX2.out.below hW HX2.out.lt).cell 0 rfl, (HX2.out.below hW HX2.out.lt).cell 1 rfl, (HX2.out.below hW HX2.out.lt).cell 2 rfl, (HX2.out.below hW HX2.out.lt).cell 3 rfl⟩ : W.cell? ⟨w.heap.size, 0, none⟩ = some (.bool false) ∧ W.cell? ⟨w.heap.size, 1, none⟩ = some (.slice a1 l1 c1) ∧ W.cell? ⟨w.heap.size, 2, none⟩ = some (.bool false) ∧ W.cell? ⟨w.heap.size, 3, none⟩ = some (.slice b1 k1 d1) ∧ W.cell? ⟨w.heap.size + 1, 0, none⟩ = some (.bool false) ∧ W.cell? ⟨w.heap.size + 1, 1, none⟩ = some (.slice a2 l2 c2) ∧ W.cell? ⟨w.heap.size + 1, 2, none⟩ = some (.bool false) ∧ W.cell? ⟨w.heap.size + 1, 3, none⟩ = some (.slice b2 k2 d2)))
 have HC := hid (show Below w2.heap.size w2 w2.drew by have h1 := Below.refl w2.heap.size w2; repeat' (first | (with_reducible exact Below.refl _ _) | (with_reducible assumption) | (with_reducible refine below_drewN ?_) | (with_reducible refine Below.alloc ?_ ?_ _) | (with_reducible refine Below.drew ?_) | (with_reducible refine Below.setCell ?_ ?_ _) | (with_reducible refine Below.trans ?_ (Below.mono (by with_reducible assumption) ?_)) | go_size))
 go_region_held3 (fun w' => w'.cell? ⟨w.heap.size, 0, none⟩ = some (.bool false) ∧ w'.cell? ⟨w.heap.size, 1, none⟩ = some (.slice a1 l1 c1) ∧ w'.cell? ⟨w.heap.size, 2, none⟩ = some (.bool false) ∧ w'.cell? ⟨w.heap.size, 3, none⟩ = some (.slice b1 k1 d1) ∧ w'.cell? ⟨w.heap.size + 1, 0, none⟩ = some (.bool false) ∧ w'.cell? ⟨w.heap.size + 1, 1, none⟩ = some (.slice a2 l2 c2) ∧ w'.cell? ⟨w.heap.size + 1, 2, none⟩ = some (.bool false) ∧ w'.cell? ⟨w.heap.size + 1, 3, none⟩ = some (.slice b2 k2 d2))
  (first | exact HG.out _ HC.out | exact HG.out _ (HC.out.alloc HC.out.size _) | exact HG.out _ (by have h1 := HC.out; have h2 := HC.out.size; repeat' (first | (with_reducible exact Below.refl _ _) | (with_reducible assumption) | (with_reducible refine below_drewN ?_) | (with_reducible refine Below.alloc ?_ ?_ _) | (with_reducible refine Below.drew ?_) | (with_reducible refine Below.setCell ?_ ?_ _) | (with_reducible refine Below.trans ?_ (Below.mono (by with_reducible assumption) ?_)) | go_size)) | exact HG.out _ (by have h0 := Below.refl w2.heap.size w2; repeat' (first | (with_reducible exact Below.refl _ _) | (with_reducible assumption) | (with_reducible refine below_drewN ?_) | (with_reducible refine Below.alloc ?_ ?_ _) | (with_reducible refine Below.drew ?_) | (with_reducible refine Below.setCell ?_ ?_ _) | (with_reducible refine Below.trans ?_ (Below.mono (by with_reducible assumption) ?_)) | go_size)) | go_keep)
  (first
   | (go_at_call 140; go_must (first
    | ((with_reducible refine (HP1.out _ (belowT HB0.out (by first | exact HC.out | exact HC.out.alloc HC.out.size _ | (have h0 := Below.refl w2.heap.size w2; repeat' (first | (with_reducible exact Below.refl _ _) | (with_reducible assumption) | (with_reducible refine below_drewN ?_) | (with_reducible refine Below.alloc ?_ ?_ _) | (with_reducible refine Below.drew ?_) | (with_reducible refine Below.setCell ?_ ?_ _) | (with_reducible refine Below.trans ?_ (Below.mono (by with_reducible assumption) ?_)) | go_size))))).mono ?_); rintro e w5 ⟨a5, c5, rfl, hr5, ho5, hb5⟩; (first | (have HNB := hid (HNB.out.below hb5 HNB.out.lt)) | (have HNB := hid ((BoxN.new _ #[.bool false, .slice none 0 0] 43).below hb5 (by simp))) | (have HNB := hid ((show BoxN (w2.alloc (.cells #[.bool false, .slice none 0 0] 43)).drew w2.heap.size _ _ from BoxN.new w2 _ _).below hb5 (by show w2.heap.size < (w2.alloc (.cells #[.bool false, .slice none 0 0] 43)).heap.size; simp))) | skip); have HC := hid (belowT (show Below w2.heap.size w2 _ from (by first | exact HC.out | exact HC.out.alloc HC.out.size _ | (have h0 := Below.refl w2.heap.size w2; repeat' (first | (with_reducible exact Below.refl _ _) | (with_reducible assumption) | (with_reducible refine below_drewN ?_) | (with_reducible refine Below.alloc ?_ ?_ _) | (with_reducible refine Below.drew ?_) | (with_reducible refine Below.setCell ?_ ?_ _) | (with_reducible refine Below.trans ?_ (Below.mono (by with_reducible assumption) ?_)) | go_size)))) hb5); have hs5 := HC.out.size; have HS5 := hid (Below.refl w5.heap.size w5); have HR5 : Hid (∀ W, Below w5.heap.size w5 W → RdB W (.agg #[.bool false, .slice a5 (dig X).length c5]) false (dig X)) := hid (fun W hW => ⟨_, _, rfl, hr5.kept hW⟩); clear hr5 ho5 hb5)
    | ((with_reducible refine (HP2.out _ (belowT HB0.out (by first | exact HC.out | exact HC.out.alloc HC.out.size _ | (have h0 := Below.refl w2.heap.size w2; repeat' (first | (with_reducible exact Below.refl _ _) | (with_reducible assumption) | (with_reducible refine below_drewN ?_) | (with_reducible refine Below.alloc ?_ ?_ _) | (with_reducible refine Below.drew ?_) | (with_reducible refine Below.setCell ?_ ?_ _) | (with_reducible refine Below.trans ?_ (Below.mono (by with_reducible assumption) ?_)) | go_size))))).mono ?_); rintro e w6 ⟨a6, c6, rfl, hr6, ho6, hb6⟩; (first | (have HNB := hid (HNB.out.below hb6 HNB.out.lt)) | (have HNB := hid ((BoxN.new _ #[.bool false, .slice none 0 0] 43).below hb6 (by simp))) | (have HNB := hid ((show BoxN (w2.alloc (.cells #[.bool false, .slice none 0 0] 43)).drew w2.heap.size _ _ from BoxN.new w2 _ _).below hb6 (by show w2.heap.size < (w2.alloc (.cells #[.bool false, .slice none 0 0] 43)).heap.size; simp))) | skip); have HC := hid (belowT (show Below w2.heap.size w2 _ from (by first | exact HC.out | exact HC.out.alloc HC.out.size _ | (have h0 := Below.refl w2.heap.size w2; repeat' (first | (with_reducible exact Below.refl _ _) | (with_reducible assumption) | (with_reducible refine below_drewN ?_) | (with_reducible refine Below.alloc ?_ ?_ _) | (with_reducible refine Below.drew ?_) | (with_reducible refine Below.setCell ?_ ?_ _) | (with_reducible refine Below.trans ?_ (Below.mono (by with_reducible assumption) ?_)) | go_size)))) hb6); have hs6 := HC.out.size; have HS5 := hid (belowT (show Below w5.heap.size w5 _ from (by first | exact HS5.out | exact HS5.out.alloc HS5.out.size _ | (have h0 := Below.refl w2.heap.size w2; repeat' (first | (with_reducible exact Below.refl _ _) | (with_reducible assumption) | (with_reducible refine below_drewN ?_) | (with_reducible refine Below.alloc ?_ ?_ _) | (with_reducible refine Below.drew ?_) | (with_reducible refine Below.setCell ?_ ?_ _) | (with_reducible refine Below.trans ?_ (Below.mono (by with_reducible assumption) ?_)) | go_size)))) hb6); have HS6 := hid (Below.refl w6.heap.size w6); have HR6 : Hid (∀ W, Below w6.heap.size w6 W → RdB W (.agg #[.bool false, .slice a6 (dig Y).length c6]) false (dig Y)) := hid (fun W hW => ⟨_, _, rfl, hr6.kept hW⟩); clear hr6 ho6 hb6)))
   | (go_at_call 141; go_must ((with_reducible refine (HOP.out _ _ (HR6.out _ (by first | exact HS6.out | exact HS6.out.alloc HS6.out.size _ | (have h0 := Below.refl w2.heap.size w2; repeat' (first | (with_reducible exact Below.refl _ _) | (with_reducible assumption) | (with_reducible refine below_drewN ?_) | (with_reducible refine Below.alloc ?_ ?_ _) | (with_reducible refine Below.drew ?_) | (with_reducible refine Below.setCell ?_ ?_ _) | (with_reducible refine Below.trans ?_ (Below.mono (by with_reducible assumption) ?_)) | go_size))))).mono ?_); rintro e w7 ⟨v7, rfl, hb7, hr7⟩; (first | (have HNB := hid (HNB.out.below hb7 HNB.out.lt)) | (have HNB := hid ((BoxN.new _ #[.bool false, .slice none 0 0] 43).below hb7 (by simp))) | (have HNB := hid ((show BoxN (w2.alloc (.cells #[.bool false, .slice none 0 0] 43)).drew w2.heap.size _ _ from BoxN.new w2 _ _).below hb7 (by show w2.heap.size < (w2.alloc (.cells #[.bool false, .slice none 0 0] 43)).heap.size; simp))) | skip); have HC := hid (belowT (show Below w2.heap.size w2 _ from (by first | exact HC.out | exact HC.out.alloc HC.out.size _ | (have h0 := Below.refl w2.heap.size w2; repeat' (first | (with_reducible exact Below.refl _ _) | (with_reducible assumption) | (with_reducible refine below_drewN ?_) | (with_reducible refine Below.alloc ?_ ?_ _) | (with_reducible refine Below.drew ?_) | (with_reducible refine Below.setCell ?_ ?_ _) | (with_reducible refine Below.trans ?_ (Below.mono (by with_reducible assumption) ?_)) | go_size)))) hb7); have hs7 := HC.out.size; have HS5 := hid (belowT (show Below w5.heap.size w5 _ from (by first | exact HS5.out | exact HS5.out.alloc HS5.out.size _ | (have h0 := Below.refl w2.heap.size w2; repeat' (first | (with_reducible exact Below.refl _ _) | (with_reducible assumption) | (with_reducible refine below_drewN ?_) | (with_reducible refine Below.alloc ?_ ?_ _) | (with_reducible refine Below.drew ?_) | (with_reducible refine Below.setCell ?_ ?_ _) | (with_reducible refine Below.trans ?_ (Below.mono (by with_reducible assumption) ?_)) | go_size)))) hb7); have HS7 := hid (Below.refl w7.heap.size w7); have HR7 := hid (fun W (hW : Below w7.heap.size w7 W) => hr7.kept hW); clear hr7 hb7))
   | (go_at_call 139; go_must ((with_reducible refine (HSU.out _ _ _ (HR5.out _ (by first | exact HS5.out | exact HS5.out.alloc HS5.out.size _ | (have h0 := Below.refl w2.heap.size w2; repeat' (first | (with_reducible exact Below.refl _ _) | (with_reducible assumption) | (with_reducible refine below_drewN ?_) | (with_reducible refine Below.alloc ?_ ?_ _) | (with_reducible refine Below.drew ?_) | (with_reducible refine Below.setCell ?_ ?_ _) | (with_reducible refine Below.trans ?_ (Below.mono (by with_reducible assumption) ?_)) | go_size)))) (HR7.out _ (by first | exact HS7.out | exact HS7.out.alloc HS7.out.size _ | (have h0 := Below.refl w2.heap.size w2; repeat' (first | (with_reducible exact Below.refl _ _) | (with_reducible assumption) | (with_reducible refine below_drewN ?_) | (with_reducible refine Below.alloc ?_ ?_ _) | (with_reducible refine Below.drew ?_) | (with_reducible refine Below.setCell ?_ ?_ _) | (with_reducible refine Below.trans ?_ (Below.mono (by with_reducible assumption) ?_)) | go_size))))).mono ?_); rintro e w8 ⟨a8, c8, D, rfl, hD, hb8⟩; (first | (have HNB := hid (HNB.out.below hb8 HNB.out.lt)) | (have HNB := hid ((BoxN.new _ #[.bool false, .slice none 0 0] 43).below hb8 (by simp))) | (have HNB := hid ((show BoxN (w2.alloc (.cells #[.bool false, .slice none 0 0] 43)).drew w2.heap.size _ _ from BoxN.new w2 _ _).below hb8 (by show w2.heap.size < (w2.alloc (.cells #[.bool false, .slice none 0 0] 43)).heap.size; simp))) | skip); have HC := hid (belowT (show Below w2.heap.size w2 _ from (by first | exact HC.out | exact HC.out.alloc HC.out.size _ | (have h0 := Below.refl w2.heap.size w2; repeat' (first | (with_reducible exact Below.refl _ _) | (with_reducible assumption) | (with_reducible refine below_drewN ?_) | (with_reducible refine Below.alloc ?_ ?_ _) | (with_reducible refine Below.drew ?_) | (with_reducible refine Below.setCell ?_ ?_ _) | (with_reducible refine Below.trans ?_ (Below.mono (by with_reducible assumption) ?_)) | go_size)))) hb8); have hs8 := HC.out.size; have HD := hid hD; (first | (have n0 := HNB.out.cell 0 rfl; have n1 := HNB.out.cell 1 rfl; have nf0 := HNB.out.frozen 0; have nf1 := HNB.out.frozen 1) | skip); clear hb8 hD)))
 all_goals
  have hDl : 0 < (dig D).length ↔ X ≠ Y := dig_length_pos.trans HD.out
  generalize (dig D).length = ld at *
  have hz0 := HB0.out.size
  have HF := hid (belowT HB0.out HC.out)
  have hzf := HF.out.size
  clear HC HD HV1 HV2 HP1 HP2 HOP HSU HG
  rcases Nat.lt_trichotomy X Y with h | h | h
  ·have hx : decide (X < Y) = true := decide_eq_true h
   clear hDl
   go_wp2
   go_ret
   exact ⟨by rw [sgn_lt h]; rfl, by have h1 := HF.out; repeat' (first | (with_reducible exact Below.refl _ _) | (with_reducible assumption) | (with_reducible refine below_drewN ?_) | (with_reducible refine Below.alloc ?_ ?_ _) | (with_reducible refine Below.drew ?_) | (with_reducible refine Below.setCell ?_ ?_ _) | (with_reducible refine Below.trans ?_ (Below.mono (by with_reducible assumption) ?_)) | go_size)⟩
  ·have hx : decide (X < Y) = false := decide_eq_false (by omega)
   have hl0 : ld = 0 := by have h1 := hDl; simp [h] at h1; omega
   subst hl0
   clear hDl
   go_wp2
   go_ret
   exact ⟨by rw [show sgn X Y = 0 from by rw [h, sgn_self]]; rfl, by have h1 := HF.out; repeat' (first | (with_reducible exact Below.refl _ _) | (with_reducible assumption) | (with_reducible refine below_drewN ?_) | (with_reducible refine Below.alloc ?_ ?_ _) | (with_reducible refine Below.drew ?_) | (with_reducible refine Below.setCell ?_ ?_ _) | (with_reducible refine Below.trans ?_ (Below.mono (by with_reducible assumption) ?_)) | go_size)⟩
  ·have hx : decide (X < Y) = false := decide_eq_false (by omega)
   have hl2 : 0 < ld := hDl.2 (by omega)
   have hl0 : decide ((0 : Int) < (ld : Int)) = true := decide_eq_true (by omega)
   have hl1 : decide (0 < ld) = true := decide_eq_true hl2
   clear hDl
   go_wp2
   go_ret
   exact ⟨by rw [sgn_gt h]; rfl, by have h1 := HF.out; repeat' (first | (with_reducible exact Below.refl _ _) | (with_reducible assumption) | (with_reducible refine below_drewN ?_) | (with_reducible refine Below.alloc ?_ ?_ _) | (with_reducible refine Below.drew ?_) | (with_reducible refine Below.setCell ?_ ?_ _) | (with_reducible refine Below.trans ?_ (Below.mono (by with_reducible assumption) ?_)) | go_size)⟩
end Go.Proofs.YtikiimlmoalbcaaGreatDoor.Fr
