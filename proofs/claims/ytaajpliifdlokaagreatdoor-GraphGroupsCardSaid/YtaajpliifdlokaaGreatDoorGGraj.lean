/- Contract of fraction.Cmp at short fractions. Contract of the reference's product of words. Contracts of the reference's doubling and halving of words. -/
import Derived.Test.YtaajpliifdlokaaGreatDoorGGrai
import Derived.Test.YtaajpliifdlokaaGreatDoorGGrad
set_option linter.unusedVariables false
set_option linter.unusedSimpArgs false
namespace Go.Proofs.YtaajpliifdlokaaGreatDoor.Fr
open Go.RowKit
theorem RdB.kept {W W' : World} {v : Value} {neg : Bool} {xs : List Nat} (h : RdB W v neg xs) (hb : Below W.heap.size W W') : RdB W' v neg xs := by
  obtain ⟨a, c, e, h1⟩ := h
  exact ⟨a, c, e, h1.kept hb⟩
theorem belowT {w W W' : World} (h1 : Below w.heap.size w W) (h2 : Below W.heap.size W W') : Below w.heap.size w W' := h1.trans (h2.mono h1.size)
structure Sml (p q : Nat) : Prop where
  num : p < 4294967296
  pos : 0 < q
  den : q < 4294967296
  low : Nat.gcd p q = 1
set_option maxRecDepth 100000 in
set_option maxHeartbeats 4000000 in
theorem frac_Cmp (u v : Value) (p1 q1 p2 q2 : Nat) (w : World) (hu : RdF w u false p1 q1) (hv : RdF w v false p2 q2) (s1 : Sml p1 q1) (s2 : Sml p2 q2) (h1 : OneAt w) :
  Calls Tryz.prog 40 #[u, v] w (Ret w (.int .i64 (sgn (p1 * q2) (p2 * q1)))) := by
 have HV1 := hid (fun W (hW : Below w.heap.size w W) => frac_Valid u p1 q1 W (hu.kept hW) s1.num s1.pos s1.den s1.low (h1.below hW))
 have HV2 := hid (fun W (hW : Below w.heap.size w W) => frac_Valid v p2 q2 W (hv.kept hW) s2.num s2.pos s2.den s2.low (h1.below hW))
 have hdl : ∀ n, n < 18446744073709551616 → (dig n).length ≤ 2 := fun n hn => dig_length_le (k := 2) (by omega)
 have hm1 : p1 * q2 < 18446744073709551616 := by have := Nat.mul_lt_mul'' s1.num s2.den; omega
 have hm2 : p2 * q1 < 18446744073709551616 := by have := Nat.mul_lt_mul'' s2.num s1.den; omega
 obtain ⟨a1, c1, b1, d1, rfl, hx1, hy1⟩ := hu
 obtain ⟨a2, c2, b2, d2, rfl, hx2, hy2⟩ := hv
 have HP1 := hid (fun W (hW : Below w.heap.size w W) => frac_product (.agg #[.bool false, .slice a1 (dig p1).length c1]) (.agg #[.bool false, .slice b2 (dig q2).length d2]) p1 q2 W ⟨a1, c1, rfl, hx1.kept hW⟩ ⟨b2, d2, rfl, hy2.kept hW⟩ (Nat.le_trans (hdl _ (by have := s1.num; omega)) (by omega)) (Nat.le_trans (hdl _ (by have := s2.den; omega)) (by omega)) (Nat.le_trans (hdl _ hm1) (by omega)))
 have HP2 := hid (fun W (hW : Below w.heap.size w W) => frac_product (.agg #[.bool false, .slice a2 (dig p2).length c2]) (.agg #[.bool false, .slice b1 (dig q1).length d1]) p2 q1 W ⟨a2, c2, rfl, hx2.kept hW⟩ ⟨b1, d1, rfl, hy1.kept hW⟩ (Nat.le_trans (hdl _ (by have := s2.num; omega)) (by omega)) (Nat.le_trans (hdl _ (by have := s1.den; omega)) (by omega)) (Nat.le_trans (hdl _ hm2) (by omega)))
 have HOP := hid (fun W x (h : RdB W x false (dig (p2 * q1))) => frac_opposite x (p2 * q1) W h)
 have HSU := hid (fun W x y (h : RdB W x false (dig (p1 * q2))) (h2 : RdB W y (decide (0 < p2 * q1)) (dig (p2 * q1))) => frac_sum x y (p1 * q2) (p2 * q1) W h h2 hm1 hm2)
 clear hx1 hx2 hy1 hy2 s1 s2 hm1 hm2 hdl h1
 generalize (dig p1).length = l1 at *
 generalize (dig q1).length = k1 at *
 generalize (dig p2).length = l2 at *
 generalize (dig q2).length = k2 at *
 generalize p1 * q2 = X at *
 generalize p2 * q1 = Y at *
 have HX1 := hid ((BoxN.new w #[.bool false, .slice a1 l1 c1, .bool false, .slice b1 k1 d1] 33).alloc (.cells #[.bool false, .slice a2 l2 c2, .bool false, .slice b2 k2 d2] 33))
 have hx2 := BoxN.new (w.alloc (.cells #[.bool false, .slice a1 l1 c1, .bool false, .slice b1 k1 d1] 33)) #[.bool false, .slice a2 l2 c2, .bool false, .slice b2 k2 d2] 33
 rw [World.size_alloc] at hx2
 have HX2 := hid hx2
 have HB0 := hid (((Below.refl w.heap.size w).alloc (Nat.le_refl _) (.cells #[.bool false, .slice a1 l1 c1, .bool false, .slice b1 k1 d1] 33)).alloc (by simp) (.cells #[.bool false, .slice a2 l2 c2, .bool false, .slice b2 k2 d2] 33))
 have hz : ((w.alloc (.cells #[.bool false, .slice a1 l1 c1, .bool false, .slice b1 k1 d1] 33)).alloc (.cells #[.bool false, .slice a2 l2 c2, .bool false, .slice b2 k2 d2] 33)).heap.size = w.heap.size + 2 := by simp
 have HZ := hid hz
 clear hx2 hz
 go_enter Tryz.func40, Tryz.ntmps40
 go_wp2_with fail
 generalize (w.alloc (.cells #[.bool false, .slice a1 l1 c1, .bool false, .slice b1 k1 d1] 33)).alloc (.cells #[.bool false, .slice a2 l2 c2, .bool false, .slice b2 k2 d2] 33) = W0 at *
 with_reducible refine (HV1.out _ HB0.out).mono ?_
 rintro e w1 ⟨rfl, hb1⟩
 have HY1 := hid (HX1.out.below hb1 HX1.out.lt)
 have HY2 := hid (HX2.out.below hb1 HX2.out.lt)
 have HB1 := hid (belowT HB0.out hb1)
 clear hb1 HX1 HX2 HB0
 have c0 := HY2.out.cell 0 rfl
 have c1' := HY2.out.cell 1 rfl
 have c2' := HY2.out.cell 2 rfl
 have c3 := HY2.out.cell 3 rfl
 go_wp2_with fail
 with_reducible refine (HV2.out _ HB1.out).mono ?_
 rintro e w2 ⟨rfl, hb2⟩
 clear c0 c1' c2' c3
 have HX1 := hid (HY1.out.below hb2 HY1.out.lt)
 have HX2 := hid (HY2.out.below hb2 HY2.out.lt)
 have HB0 := hid (belowT HB1.out hb2)
 clear hb2 HY1 HY2 HB1
 go_upto_region 3 with fail
 have HG := hid (fun W (hW : Below w2.heap.size w2 W) => (⟨(HX1.out.below hW HX1.out.lt).cell 0 rfl, (HX1.out.below hW HX1.out.lt).cell 1 rfl, (HX1.out.below hW HX1.out.lt).cell 2 rfl, (HX1.out.below hW HX1.out.lt).cell 3 rfl, (HX2.out.below hW HX2.out.lt).cell 0 rfl, (HX2.out.below hW HX2.out.lt).cell 1 rfl, (HX2.out.below hW HX2.out.lt).cell 2 rfl, (HX2.out.below hW HX2.out.lt).cell 3 rfl⟩ : W.cell? ⟨w.heap.size, 0, none⟩ = some (.bool false) ∧ W.cell? ⟨w.heap.size, 1, none⟩ = some (.slice a1 l1 c1) ∧ W.cell? ⟨w.heap.size, 2, none⟩ = some (.bool false) ∧ W.cell? ⟨w.heap.size, 3, none⟩ = some (.slice b1 k1 d1) ∧ W.cell? ⟨w.heap.size + 1, 0, none⟩ = some (.bool false) ∧ W.cell? ⟨w.heap.size + 1, 1, none⟩ = some (.slice a2 l2 c2) ∧ W.cell? ⟨w.heap.size + 1, 2, none⟩ = some (.bool false) ∧ W.cell? ⟨w.heap.size + 1, 3, none⟩ = some (.slice b2 k2 d2)))
 have HC := hid (show Below w2.heap.size w2 w2.drew by have h1 := Below.refl w2.heap.size w2; repeat' (first | (with_reducible exact Below.refl _ _) | (with_reducible assumption) | (with_reducible refine below_drewN ?_) | (with_reducible refine Below.alloc ?_ ?_ _) | (with_reducible refine Below.drew ?_) | (with_reducible refine Below.setCell ?_ ?_ _) | (with_reducible refine Below.trans ?_ (Below.mono (by with_reducible assumption) ?_)) | go_size))
 go_region_held3 (fun w' => w'.cell? ⟨w.heap.size, 0, none⟩ = some (.bool false) ∧ w'.cell? ⟨w.heap.size, 1, none⟩ = some (.slice a1 l1 c1) ∧ w'.cell? ⟨w.heap.size, 2, none⟩ = some (.bool false) ∧ w'.cell? ⟨w.heap.size, 3, none⟩ = some (.slice b1 k1 d1) ∧ w'.cell? ⟨w.heap.size + 1, 0, none⟩ = some (.bool false) ∧ w'.cell? ⟨w.heap.size + 1, 1, none⟩ = some (.slice a2 l2 c2) ∧ w'.cell? ⟨w.heap.size + 1, 2, none⟩ = some (.bool false) ∧ w'.cell? ⟨w.heap.size + 1, 3, none⟩ = some (.slice b2 k2 d2))
  (first | exact HG.out _ HC.out | exact HG.out _ (HC.out.alloc HC.out.size _) | exact HG.out _ (by have h1 := HC.out; have h2 := HC.out.size; repeat' (first | (with_reducible exact Below.refl _ _) | (with_reducible assumption) | (with_reducible refine below_drewN ?_) | (with_reducible refine Below.alloc ?_ ?_ _) | (with_reducible refine Below.drew ?_) | (with_reducible refine Below.setCell ?_ ?_ _) | (with_reducible refine Below.trans ?_ (Below.mono (by with_reducible assumption) ?_)) | go_size)) | exact HG.out _ (by have h0 := Below.refl w2.heap.size w2; repeat' (first | (with_reducible exact Below.refl _ _) | (with_reducible assumption) | (with_reducible refine below_drewN ?_) | (with_reducible refine Below.alloc ?_ ?_ _) | (with_reducible refine Below.drew ?_) | (with_reducible refine Below.setCell ?_ ?_ _) | (with_reducible refine Below.trans ?_ (Below.mono (by with_reducible assumption) ?_)) | go_size)) | go_keep)
  (first
   | (go_at_call 81; go_must (first
    | ((with_reducible refine (HP1.out _ (belowT HB0.out (by first | exact HC.out | exact HC.out.alloc HC.out.size _ | (have h0 := Below.refl w2.heap.size w2; repeat' (first | (with_reducible exact Below.refl _ _) | (with_reducible assumption) | (with_reducible refine below_drewN ?_) | (with_reducible refine Below.alloc ?_ ?_ _) | (with_reducible refine Below.drew ?_) | (with_reducible refine Below.setCell ?_ ?_ _) | (with_reducible refine Below.trans ?_ (Below.mono (by with_reducible assumption) ?_)) | go_size))))).mono ?_); rintro e w5 ⟨a5, c5, rfl, hr5, ho5, hb5⟩; (first | (have HNB := hid (HNB.out.below hb5 HNB.out.lt)) | (have HNB := hid ((BoxN.new _ #[.bool false, .slice none 0 0] 31).below hb5 (by simp))) | (have HNB := hid ((show BoxN (w2.alloc (.cells #[.bool false, .slice none 0 0] 31)).drew w2.heap.size _ _ from BoxN.new w2 _ _).below hb5 (by show w2.heap.size < (w2.alloc (.cells #[.bool false, .slice none 0 0] 31)).heap.size; simp))) | skip); have HC := hid (belowT (show Below w2.heap.size w2 _ from (by first | exact HC.out | exact HC.out.alloc HC.out.size _ | (have h0 := Below.refl w2.heap.size w2; repeat' (first | (with_reducible exact Below.refl _ _) | (with_reducible assumption) | (with_reducible refine below_drewN ?_) | (with_reducible refine Below.alloc ?_ ?_ _) | (with_reducible refine Below.drew ?_) | (with_reducible refine Below.setCell ?_ ?_ _) | (with_reducible refine Below.trans ?_ (Below.mono (by with_reducible assumption) ?_)) | go_size)))) hb5); have hs5 := HC.out.size; have HS5 := hid (Below.refl w5.heap.size w5); have HR5 : Hid (∀ W, Below w5.heap.size w5 W → RdB W (.agg #[.bool false, .slice a5 (dig X).length c5]) false (dig X)) := hid (fun W hW => ⟨_, _, rfl, hr5.kept hW⟩); clear hr5 ho5 hb5)
    | ((with_reducible refine (HP2.out _ (belowT HB0.out (by first | exact HC.out | exact HC.out.alloc HC.out.size _ | (have h0 := Below.refl w2.heap.size w2; repeat' (first | (with_reducible exact Below.refl _ _) | (with_reducible assumption) | (with_reducible refine below_drewN ?_) | (with_reducible refine Below.alloc ?_ ?_ _) | (with_reducible refine Below.drew ?_) | (with_reducible refine Below.setCell ?_ ?_ _) | (with_reducible refine Below.trans ?_ (Below.mono (by with_reducible assumption) ?_)) | go_size))))).mono ?_); rintro e w6 ⟨a6, c6, rfl, hr6, ho6, hb6⟩; (first | (have HNB := hid (HNB.out.below hb6 HNB.out.lt)) | (have HNB := hid ((BoxN.new _ #[.bool false, .slice none 0 0] 31).below hb6 (by simp))) | (have HNB := hid ((show BoxN (w2.alloc (.cells #[.bool false, .slice none 0 0] 31)).drew w2.heap.size _ _ from BoxN.new w2 _ _).below hb6 (by show w2.heap.size < (w2.alloc (.cells #[.bool false, .slice none 0 0] 31)).heap.size; simp))) | skip); have HC := hid (belowT (show Below w2.heap.size w2 _ from (by first | exact HC.out | exact HC.out.alloc HC.out.size _ | (have h0 := Below.refl w2.heap.size w2; repeat' (first | (with_reducible exact Below.refl _ _) | (with_reducible assumption) | (with_reducible refine below_drewN ?_) | (with_reducible refine Below.alloc ?_ ?_ _) | (with_reducible refine Below.drew ?_) | (with_reducible refine Below.setCell ?_ ?_ _) | (with_reducible refine Below.trans ?_ (Below.mono (by with_reducible assumption) ?_)) | go_size)))) hb6); have hs6 := HC.out.size; have HS5 := hid (belowT (show Below w5.heap.size w5 _ from (by first | exact HS5.out | exact HS5.out.alloc HS5.out.size _ | (have h0 := Below.refl w2.heap.size w2; repeat' (first | (with_reducible exact Below.refl _ _) | (with_reducible assumption) | (with_reducible refine below_drewN ?_) | (with_reducible refine Below.alloc ?_ ?_ _) | (with_reducible refine Below.drew ?_) | (with_reducible refine Below.setCell ?_ ?_ _) | (with_reducible refine Below.trans ?_ (Below.mono (by with_reducible assumption) ?_)) | go_size)))) hb6); have HS6 := hid (Below.refl w6.heap.size w6); have HR6 : Hid (∀ W, Below w6.heap.size w6 W → RdB W (.agg #[.bool false, .slice a6 (dig Y).length c6]) false (dig Y)) := hid (fun W hW => ⟨_, _, rfl, hr6.kept hW⟩); clear hr6 ho6 hb6)))
   | (go_at_call 82; go_must ((with_reducible refine (HOP.out _ _ (HR6.out _ (by first | exact HS6.out | exact HS6.out.alloc HS6.out.size _ | (have h0 := Below.refl w2.heap.size w2; repeat' (first | (with_reducible exact Below.refl _ _) | (with_reducible assumption) | (with_reducible refine below_drewN ?_) | (with_reducible refine Below.alloc ?_ ?_ _) | (with_reducible refine Below.drew ?_) | (with_reducible refine Below.setCell ?_ ?_ _) | (with_reducible refine Below.trans ?_ (Below.mono (by with_reducible assumption) ?_)) | go_size))))).mono ?_); rintro e w7 ⟨v7, rfl, hb7, hr7⟩; (first | (have HNB := hid (HNB.out.below hb7 HNB.out.lt)) | (have HNB := hid ((BoxN.new _ #[.bool false, .slice none 0 0] 31).below hb7 (by simp))) | (have HNB := hid ((show BoxN (w2.alloc (.cells #[.bool false, .slice none 0 0] 31)).drew w2.heap.size _ _ from BoxN.new w2 _ _).below hb7 (by show w2.heap.size < (w2.alloc (.cells #[.bool false, .slice none 0 0] 31)).heap.size; simp))) | skip); have HC := hid (belowT (show Below w2.heap.size w2 _ from (by first | exact HC.out | exact HC.out.alloc HC.out.size _ | (have h0 := Below.refl w2.heap.size w2; repeat' (first | (with_reducible exact Below.refl _ _) | (with_reducible assumption) | (with_reducible refine below_drewN ?_) | (with_reducible refine Below.alloc ?_ ?_ _) | (with_reducible refine Below.drew ?_) | (with_reducible refine Below.setCell ?_ ?_ _) | (with_reducible refine Below.trans ?_ (Below.mono (by with_reducible assumption) ?_)) | go_size)))) hb7); have hs7 := HC.out.size; have HS5 := hid (belowT (show Below w5.heap.size w5 _ from (by first | exact HS5.out | exact HS5.out.alloc HS5.out.size _ | (have h0 := Below.refl w2.heap.size w2; repeat' (first | (with_reducible exact Below.refl _ _) | (with_reducible assumption) | (with_reducible refine below_drewN ?_) | (with_reducible refine Below.alloc ?_ ?_ _) | (with_reducible refine Below.drew ?_) | (with_reducible refine Below.setCell ?_ ?_ _) | (with_reducible refine Below.trans ?_ (Below.mono (by with_reducible assumption) ?_)) | go_size)))) hb7); have HS7 := hid (Below.refl w7.heap.size w7); have HR7 := hid (fun W (hW : Below w7.heap.size w7 W) => hr7.kept hW); clear hr7 hb7))
   | (go_at_call 80; go_must ((with_reducible refine (HSU.out _ _ _ (HR5.out _ (by first | exact HS5.out | exact HS5.out.alloc HS5.out.size _ | (have h0 := Below.refl w2.heap.size w2; repeat' (first | (with_reducible exact Below.refl _ _) | (with_reducible assumption) | (with_reducible refine below_drewN ?_) | (with_reducible refine Below.alloc ?_ ?_ _) | (with_reducible refine Below.drew ?_) | (with_reducible refine Below.setCell ?_ ?_ _) | (with_reducible refine Below.trans ?_ (Below.mono (by with_reducible assumption) ?_)) | go_size)))) (HR7.out _ (by first | exact HS7.out | exact HS7.out.alloc HS7.out.size _ | (have h0 := Below.refl w2.heap.size w2; repeat' (first | (with_reducible exact Below.refl _ _) | (with_reducible assumption) | (with_reducible refine below_drewN ?_) | (with_reducible refine Below.alloc ?_ ?_ _) | (with_reducible refine Below.drew ?_) | (with_reducible refine Below.setCell ?_ ?_ _) | (with_reducible refine Below.trans ?_ (Below.mono (by with_reducible assumption) ?_)) | go_size))))).mono ?_); rintro e w8 ⟨a8, c8, D, rfl, hD, hb8⟩; (first | (have HNB := hid (HNB.out.below hb8 HNB.out.lt)) | (have HNB := hid ((BoxN.new _ #[.bool false, .slice none 0 0] 31).below hb8 (by simp))) | (have HNB := hid ((show BoxN (w2.alloc (.cells #[.bool false, .slice none 0 0] 31)).drew w2.heap.size _ _ from BoxN.new w2 _ _).below hb8 (by show w2.heap.size < (w2.alloc (.cells #[.bool false, .slice none 0 0] 31)).heap.size; simp))) | skip); have HC := hid (belowT (show Below w2.heap.size w2 _ from (by first | exact HC.out | exact HC.out.alloc HC.out.size _ | (have h0 := Below.refl w2.heap.size w2; repeat' (first | (with_reducible exact Below.refl _ _) | (with_reducible assumption) | (with_reducible refine below_drewN ?_) | (with_reducible refine Below.alloc ?_ ?_ _) | (with_reducible refine Below.drew ?_) | (with_reducible refine Below.setCell ?_ ?_ _) | (with_reducible refine Below.trans ?_ (Below.mono (by with_reducible assumption) ?_)) | go_size)))) hb8); have hs8 := HC.out.size; have HD := hid hD; (first | (have n0 := HNB.out.cell 0 rfl; have n1 := HNB.out.cell 1 rfl; have nf0 := HNB.out.frozen 0; have nf1 := HNB.out.frozen 1) | skip); clear hb8 hD)))
 all_goals
  have hDl : 0 < (dig D).length ↔ X ≠ Y := dig_length_pos.trans HD.out
  generalize (dig D).length = ld at *
  have hz0 := HB0.out.size
  have HF := hid (belowT HB0.out HC.out)
  have hzf := HF.out.size
  clear HC HD HV1 HV2 HP1 HP2 HOP HSU HG
  rcases Nat.lt_trichotomy X Y with h | h | h
  ·have hx : decide (X < Y) = true := decide_eq_true h
   clear hDl
   go_wp2
   go_ret
   exact ⟨by rw [sgn_lt h]; rfl, by have h1 := HF.out; repeat' (first | (with_reducible exact Below.refl _ _) | (with_reducible assumption) | (with_reducible refine below_drewN ?_) | (with_reducible refine Below.alloc ?_ ?_ _) | (with_reducible refine Below.drew ?_) | (with_reducible refine Below.setCell ?_ ?_ _) | (with_reducible refine Below.trans ?_ (Below.mono (by with_reducible assumption) ?_)) | go_size)⟩
  ·have hx : decide (X < Y) = false := decide_eq_false (by omega)
   have hl0 : ld = 0 := by have h1 := hDl; simp [h] at h1; omega
   subst hl0
   clear hDl
   go_wp2
   go_ret
   exact ⟨by rw [show sgn X Y = 0 from by rw [h, sgn_self]]; rfl, by have h1 := HF.out; repeat' (first | (with_reducible exact Below.refl _ _) | (with_reducible assumption) | (with_reducible refine below_drewN ?_) | (with_reducible refine Below.alloc ?_ ?_ _) | (with_reducible refine Below.drew ?_) | (with_reducible refine Below.setCell ?_ ?_ _) | (with_reducible refine Below.trans ?_ (Below.mono (by with_reducible assumption) ?_)) | go_size)⟩
  ·have hx : decide (X < Y) = false := decide_eq_false (by omega)
   have hl2 : 0 < ld := hDl.2 (by omega)
   have hl0 : decide ((0 : Int) < (ld : Int)) = true := decide_eq_true (by omega)
   have hl1 : decide (0 < ld) = true := decide_eq_true hl2
   clear hDl
   go_wp2
   go_ret
   exact ⟨by rw [sgn_gt h]; rfl, by have h1 := HF.out; repeat' (first | (with_reducible exact Below.refl _ _) | (with_reducible assumption) | (with_reducible refine below_drewN ?_) | (with_reducible refine Below.alloc ?_ ?_ _) | (with_reducible refine Below.drew ?_) | (with_reducible refine Below.setCell ?_ ?_ _) | (with_reducible refine Below.trans ?_ (Below.mono (by with_reducible assumption) ?_)) | go_size)⟩
end Go.Proofs.YtaajpliifdlokaaGreatDoor.Fr

namespace Go.Proofs.YtaajpliifdlokaaGreatDoor.Fr
open Go.RowKit
end Go.Proofs.YtaajpliifdlokaaGreatDoor.Fr

namespace Go.Proofs.YtaajpliifdlokaaGreatDoor.Fr
open Go.RowKit
theorem twice_digit (x q : Nat) (hx : x < 4294967296) (hq : q ≤ 1) : ∃ D q', D < 4294967296 ∧ q' ≤ 1 ∧ D + 4294967296 * q' = 2 * x + q ∧ bits BinOp.or IntKind.u32 ((x : Int) * 2 % 4294967296) (q : Int) = (D : Int) ∧ (x : Int) / 2147483648 = (q' : Int) := by
  refine ⟨x * 2 % 4294967296 + q, x / 2147483648, by omega, by omega, by omega, ?_, by omega⟩
  rw [show ((x : Int) * 2 % 4294967296) = ((x * 2 % 4294967296 : Nat) : Int) from by omega, u32_or_nat _ _ (by omega) (by omega), nat_join1 _ _ (by omega) (by omega)]
set_option maxHeartbeats 1000000 in
theorem ref_twice (u : Value) (xs : List Nat) (d : Nat) (w : World) (hx : Rd32 w u xs) (hlx : xs.length ≤ 1073741824) (hd : d ≤ 1) :
  Calls Tryz.prog 188 #[u, .int .u32 (d : Int)] w (GivesD w (2 * val xs + d)) := by
 obtain ⟨a, c, rfl, hc, hm, hxr, hxc⟩ := hx
 unfold maxLen at hm
 obtain ⟨i0, hi, hz0, hz1, hz2⟩ := info_parts info_u32
 obtain ⟨n, hn⟩ : ∃ n, n = xs.length := ⟨_, rfl⟩
 rw [← hn] at hc hxc hlx ⊢
 have HN := hid hn
 have HX := hid hxr
 have HXC := hid hxc
 clear hn hxr hxc
 go_enter Tryz.func188, Tryz.ntmps188
 go_wp2
 go_loopw [1, 5, 6] (fun cv o i wr => ∃ k q : Nat, k ≤ n ∧ i = .int .i64 k ∧ cv = .int .u32 (q : Int) ∧ q ≤ 1 ∧ ∃ zs : List Nat, zs.length = k ∧ Digs zs ∧ val zs + 4294967296 ^ k * q = 2 * vt xs k + d ∧ wr.ownsRow w.heap.size 159 1 o k (zs.map U32) ∧ Below w.heap.size w wr) (fun _ _ i _ => n - (intOf i).toNat)
 case atStart => exact ⟨0, d, by omega, rfl, rfl, by omega, [], rfl, Digs.nil, by simp [vt_zero, val], World.ownsRow_nil _ _ _ _, Below.refl _ _⟩
 case round =>
  obtain ⟨k, q, hk, rfl, rfl, hq, zs, hzl, hzd, hv, hown, hbl⟩ := hrel
  have HV := hid hv
  have HL := hid hzl
  have HD := hid hzd
  have hxk := HX.out k
  have HB := hid hbl
  have hbs := hbl.size
  clear hv hzl hzd hbl
  by_cases h1 : k < n
  ·obtain ⟨b, o, rfl, hb, hcell⟩ := HXC.out (by omega)
   have hcx := (HB.out.cell (p := ⟨b, o + k, none⟩) hb).trans (hcell k h1)
   have HCX := hid (hcell k h1)
   clear hcell
   obtain ⟨D, q', hD, hq', he, hd1, hd2⟩ := twice_digit (xs.getD k 0) q hxk hq
   have hst := hid (twice_step (xs := xs) HL.out HV.out he)
   have HD1 := hid hd1
   have HD2 := hid hd2
   clear he hd1 hd2
   generalize xs.getD k 0 = x at *
   go_wp2_with (at_builtin; refine wpList_append_own _ rfl _ _ 29 rfl (w.heap.size) 159 i0 (.int .u32 0) 1 4 Tryz.underlying29 hi hz0 hz1 hz2 rfl (by decide) _ _ _ rfl (hown.alloc _) ⟨_, 0, none⟩ 1 1 [(.int .u32 (bits BinOp.or IntKind.u32 ((x : Int) * 2 % 4294967296) (q : Int)))] rfl rfl (cell_one_new _ _ _) (by intro u hu; simp at hu; subst hu; rfl) (by unfold maxLen; omega) (by omega) (by simp; omega) ?_)
   intro v' w1 hown' hgrow _
   have hbl2 := push_below HB.out (by omega) hown hgrow
   have hcx' := (hbl2.cell (p := ⟨b, o + k, none⟩) hb).trans HCX.out
   have hbl' := hid hbl2
   clear hown hgrow hcx hbl2
   rw [HD1.out, map_snoc] at hown'
   go_wp2
   rw [HD2.out]
   go_roundw
   case rel => exact ⟨k + 1, q', by omega, by go_num, rfl, by omega, zs ++ [D], by simp [HL.out], HD.out.append (Digs.cons (by omega) Digs.nil), hst.out, hown', hbl'.out⟩
   case measure => simp [intOf]; omega
  ·go_wp2_with (at_builtin; refine wpList_append_own _ rfl _ _ 29 rfl (w.heap.size) 159 i0 (.int .u32 0) 1 4 Tryz.underlying29 hi hz0 hz1 hz2 rfl (by decide) _ _ _ rfl (hown.alloc _) ⟨_, 0, none⟩ 1 1 [(.int .u32 (q : Int))] rfl rfl (cell_one_new _ _ _) (by intro u hu; simp at hu; subst hu; rfl) (by unfold maxLen; omega) (by omega) (by simp; omega) ?_)
   intro v' w1 hown' hgrow _
   have hbl' := hid (push_below HB.out (by omega) hown hgrow)
   have hbs' := hbl'.out.size
   clear hown hgrow
   rw [map_snoc] at hown'
   have hfin : val (zs ++ [q]) = 2 * val xs + d := by
    rw [val_snoc, HL.out, HV.out, vt_all xs k (by have := HN.out; omega)]
   have HF := hid hfin
   obtain ⟨hr1, hr2, _, ra, rc, rfl⟩ := rd_of_owns hown' (HD.out.append (Digs.cons (by omega) Digs.nil))
   have HR1 := hid hr1
   have HR2 := hid hr2
   clear hr1 hr2 hown' hfin
   go_wp2_with fail
   refine (ref_trim _ _ _ HR1.out).mono ?_
   rintro e w' ⟨a2, c2, rfl, hv2, ho2, k2, rfl⟩
   rw [HF.out] at hv2 ho2
   rw [HF.out]
   have HV2 := hid (hv2 _ HR1.out)
   have HO2 := hid ho2
   clear hv2 ho2
   go_wp2
   go_ret
   exact ⟨_, _, rfl, HV2.out, fun R hR => HO2.out R (HR2.out R hR), below_drewN hbl'.out⟩
theorem half_digit (x y : Nat) (hx : x < 4294967296) (hy : y < 4294967296) : bits BinOp.or IntKind.u32 ((x : Int) / 2) ((y : Int) * 2147483648 % 4294967296) = ((x / 2 + y % 2 * 2147483648 : Nat) : Int) := by
  rw [show ((x : Int) / 2) = ((x / 2 : Nat) : Int) from by omega, show ((y : Int) * 2147483648 % 4294967296) = ((y % 2 * 2147483648 : Nat) : Int) from by omega,
    u32_or_nat _ _ (by omega) (by omega), nat_join31' _ _ (by omega) (by omega)]
  omega
set_option maxHeartbeats 1000000 in
set_option maxRecDepth 100000 in
theorem ref_half (u : Value) (xs : List Nat) (w : World) (hx : Rd32 w u xs) (hlx : xs.length ≤ 1073741824) (hpos : 0 < xs.length) :
  Calls Tryz.prog 187 #[u] w (GivesD w (val xs / 2)) := by
 obtain ⟨a, c, rfl, hc, hm, hxr, hxc⟩ := hx
 unfold maxLen at hm
 obtain ⟨i0, hi, hz0, hz1, hz2⟩ := info_parts info_u32
 obtain ⟨b, o, rfl, hb, hcell⟩ := hxc hpos
 have hnews := Rd32.news (n := 0) (c := 0) (w := w.alloc (.cells #[] 159)) (fun i hi => (World.cell?_alloc_lt _ _ ⟨b, o + i, none⟩ hb).trans (hcell i hi))
 obtain ⟨n, hn⟩ : ∃ n, n = xs.length := ⟨_, rfl⟩
 rw [← hn] at hc hcell hlx hpos ⊢
 have HN := hid hn
 have HX := hid hxr
 have HXC := hid hcell
 have HNEWS := hid hnews
 have hlen : (xs.map U32).length = n * 1 := by simp [hn]
 have HLEN := hid hlen
 clear hn hxr hcell hxc hnews hlen
 have hown0 : (w.alloc (.cells #[] 159)).ownsRow w.heap.size 159 1 (.slice (some ⟨w.heap.size, 0, none⟩) 0 0) 0 [] := World.ownsRow_made w #[] 0 (Nat.le_refl _) (Nat.zero_le _) rfl
 have HOWN := hid hown0
 clear hown0
 go_enter Tryz.func187, Tryz.ntmps187
 go_wp2_with (at_builtin; refine wpList_append_own _ rfl _ _ 29 rfl w.heap.size 159 i0 (.int .u32 0) 1 4 Tryz.underlying29 hi hz0 hz1 hz2 rfl (by decide) _ _ _ rfl HOWN.out ⟨b, o, none⟩ n c (xs.map U32) rfl HLEN.out HNEWS.out (u32_one xs) (by unfold maxLen; omega) (by omega) (by go_size) ?_)
 intro v' w1 hown hgrow _
 obtain ⟨g, cap, rfl, hcap, hcm, hg, hO⟩ := own32_of_owns hown HX.out hpos
 have HO := hid hO
 have hbl : Below w.heap.size w w1 := ((Below.refl _ w).alloc (Nat.le_refl _) _).grown hgrow (by simp) (fun k hk => (HOWN.out.lt k hk).1)
 have HB := hid hbl
 unfold maxLen at hcm
 clear hO hown hgrow hbl HOWN HNEWS HLEN
 go_wp2
 go_loopw [10] (fun i wr => ∃ k : Nat, k ≤ n ∧ i = .int .i64 k ∧ Own32 wr g n ((halfF xs).take k ++ xs.drop k) ∧ Below w.heap.size w wr) (fun i _ => n - (intOf i).toNat)
 case atStart => exact ⟨0, by omega, rfl, by simpa using HO.out, HB.out⟩
 case round =>
  clear HO HB
  obtain ⟨k, hk, rfl, hO, hbl⟩ := hrel
  have HO := hid hO
  have HB := hid hbl
  clear hO hbl
  by_cases h1 : k < n
  ·obtain ⟨hcz, hfz⟩ := HO.out.2.2.2 k h1
   rw [mixed_getD (halfF_length xs) (by have := HN.out; omega)] at hcz
   have hset := halfF_getD xs k (by have := HN.out; omega)
   have hxk := HX.out k
   have hyk := HX.out (k + 1)
   have hmx := mixed_set (halfF_length xs) (show k < xs.length by have := HN.out; omega)
   by_cases h2 : k + 1 < n
   ·have hcx := (HB.out.cell (p := ⟨b, o + (k + 1), none⟩) hb).trans (HXC.out (k + 1) h2)
    have hd := half_digit (xs.getD k 0) (xs.getD (k + 1) 0) hxk hyk
    rw [← hset] at hd
    have HSET := hid hset
    have HMX := hid hmx
    have HXY := hid (HXC.out (k + 1) h2)
    clear hset hmx
    generalize xs.getD (k + 1) 0 = y at *
    generalize xs.getD k 0 = x at *
    go_wp2
    have hO1 := HO.out.set h1 (show x / 2 < 4294967296 by omega)
    have hb1 : Below w.heap.size w (wr.setCell ⟨g, k, none⟩ (U32 (x / 2))) := HB.out.setCell hg _
    rw [show ((x : Int) / 2) = ((x / 2 : Nat) : Int) from by omega]
    have hcx1 := (hb1.cell (p := ⟨b, o + (k + 1), none⟩) hb).trans HXY.out
    generalize wr.setCell ⟨g, k, none⟩ (U32 (x / 2)) = W at *
    clear hcz hfz hcx
    obtain ⟨hcz, hfz⟩ := hO1.2.2.2 k h1
    rw [getD_set_self (by rw [HO.out.1]; exact h1)] at hcz
    have HO1 := hid (hO1.set h1 (d := (halfF xs).getD k 0) (digs_halfF HX.out k))
    have HB1 := hid hb1
    clear hO1 hb1
    go_region
    all_goals
     go_wp2
     have hO2 := HO1.out
     rw [List.set_set, HMX.out] at hO2
     have HO2 := hid hO2
     clear hO2 hd
     go_roundw
     case rel => exact ⟨k + 1, by omega, by go_num, HO2.out.drew, (HB1.out.setCell (p := ⟨g, k, none⟩) hg _).drew⟩
     case measure => simp [intOf]; omega
   ·have h0 : xs.getD (k + 1) 0 = 0 := getD_beyond (by have := HN.out; omega)
    rw [h0, Nat.zero_mod, Nat.zero_mul, Nat.add_zero] at hset
    have HMX := hid hmx
    have HSET := hid hset
    clear hset hmx h0 hyk
    generalize xs.getD k 0 = x at *
    go_wp2
    have hO1 := HO.out.set h1 (show x / 2 < 4294967296 by omega)
    rw [← HSET.out, HMX.out, HSET.out] at hO1
    have HO1 := hid hO1
    have HB1 := hid (HB.out.setCell (p := ⟨g, k, none⟩) hg (U32 (x / 2)))
    rw [show ((x : Int) / 2) = ((x / 2 : Nat) : Int) from by omega]
    clear hO1
    go_roundw
    case rel => exact ⟨k + 1, by omega, by go_num, HO1.out, HB1.out⟩
    case measure => simp [intOf]; omega
  ·have hO := HO.out
   rw [List.take_of_length_le (by rw [halfF_length]; have := HN.out; omega), List.drop_eq_nil_of_le (by have := HN.out; omega), List.append_nil] at hO
   have HR1 := hid (hO.rd hcap (by unfold maxLen; exact hcm))
   clear hO
   go_wp2_with fail
   refine (ref_trim _ _ _ HR1.out).mono ?_
   rintro e w' ⟨a2, c2, rfl, hv2, ho2, k2, rfl⟩
   rw [val_halfF] at hv2 ho2
   rw [val_halfF]
   have HV2 := hid (hv2 _ HR1.out)
   have HO2 := hid ho2
   clear hv2 ho2
   go_wp2
   go_ret
   exact ⟨_, _, rfl, HV2.out, fun R hR => HO2.out R (Off.of_lt (by omega)), below_drewN HB.out⟩
end Go.Proofs.YtaajpliifdlokaaGreatDoor.Fr
