/- Contract of fraction.Valid at short fractions. Contract of fraction.Cmp at short fractions. Plain: operations on tables (chapter 38), as the reference does them. No program in sight. -/
import Derived.Test.YthblaeleogdfpaaGreatDoorCToam
import Derived.Test.YthblaeleogdfpaaGreatDoorCToas
import Derived.Test.YthblaeleogdfpaaGreatDoorCToab
import Derived.Test.YthblaeleogdfpaaGreatDoorCToac
set_option linter.unusedVariables false
set_option linter.unusedSimpArgs false
namespace Go.Proofs.YthblaeleogdfpaaGreatDoor.Fr
open Go.RowKit
def OneAt (W : World) : Prop := ∃ a c, W.cell? ⟨0, 0, none⟩ = some (.slice a 1 c) ∧ Rd32 W (.slice a 1 c) (dig 1) ∧ 0 < W.heap.size
theorem OneAt.below {W W' : World} (h : OneAt W) (hb : Below W.heap.size W W') : OneAt W' := by
 obtain ⟨a, c, h1, h2, h3⟩ := h
 exact ⟨a, c, (hb.cell (p := ⟨0, 0, none⟩) h3).trans h1, h2.kept hb, Nat.lt_of_lt_of_le h3 hb.size⟩
set_option maxRecDepth 100000 in
set_option maxHeartbeats 4000000 in
theorem frac_Valid (v : Value) (p q : Nat) (w : World) (hv : RdF w v false p q) (hp : p < 4294967296) (hq0 : 0 < q) (hq : q < 4294967296) (hgc : Nat.gcd p q = 1) (h1 : OneAt w) :
  Calls Tryz.prog 126 #[v] w (Ret w (.bool true)) := by
 obtain ⟨a, c, a', c', rfl, hx, hy⟩ := hv
 obtain ⟨ao, co, hcell, hone, hlt⟩ := h1
 have hl1 : (dig p).length ≤ 1 := dig_length_le (by omega)
 have hl2 : (dig q).length ≤ 1 := dig_length_le (by omega)
 have hqp : 0 < (dig q).length := dig_length_pos.2 hq0
 have HBI := hid (fun W g (hW : Below w.heap.size w W) (hg : g < W.heap.size) h0 h1 h2 h3 => frac_bigs2 g false false (dig p) (dig q) a a' c c' W hg h0 h1 h2 h3 (hx.kept hW) (hy.kept hW))
 rw [okBig_false p (by omega), okBig_false q (by omega)] at HBI
 have HCO := hid (fun W (hW : Below w.heap.size w W) => frac_common1 (.slice a (dig p).length c) (.slice a' (dig q).length c') p q W (hx.kept hW) (hy.kept hW) (by omega) hq)
 rw [hgc] at HCO
 have HCM := hid (fun W (hW : Below w.heap.size w W) s (hs : Rd32 W s (dig 1)) => frac_compare s (.slice ao 1 co) (dig 1) (dig 1) W hs (hone.kept hW))
 rw [cmpL_dig, sgn_self] at HCM
 clear hx hy hone
 generalize (dig p).length = l1 at *
 generalize (dig q).length = l2 at *
 have hd : decide ((0 : Int) < (l2 : Int)) = true := decide_eq_true (by omega)
 have HX := hid (BoxN.new w #[.bool false, .slice a l1 c, .bool false, .slice a' l2 c'] 49)
 have HB0 := hid ((Below.refl w.heap.size w).alloc (Nat.le_refl _) (.cells #[.bool false, .slice a l1 c, .bool false, .slice a' l2 c'] 49))
 have HGC := hid (fun W (hW : Below w.heap.size w W) => (hW.cell (p := ⟨0, 0, none⟩) hlt).trans hcell)
 clear hcell
 go_enter Tryz.func126, Tryz.ntmps126
 go_upto_region 1 with fail
 generalize w.alloc (.cells #[.bool false, .slice a l1 c, .bool false, .slice a' l2 c'] 49) = W0 at *
 have hz0 := HX.out.lt
 have HG := hid (fun W (hW : Below W0.heap.size W0 W) => (⟨(HX.out.below hW HX.out.lt).cell 0 rfl, (HX.out.below hW HX.out.lt).cell 1 rfl, (HX.out.below hW HX.out.lt).cell 2 rfl, (HX.out.below hW HX.out.lt).cell 3 rfl, HGC.out W (HB0.out.trans (hW.mono HB0.out.size))⟩ : W.cell? ⟨w.heap.size, 0, none⟩ = some (.bool false) ∧ W.cell? ⟨w.heap.size, 1, none⟩ = some (.slice a l1 c) ∧ W.cell? ⟨w.heap.size, 2, none⟩ = some (.bool false) ∧ W.cell? ⟨w.heap.size, 3, none⟩ = some (.slice a' l2 c') ∧ W.cell? ⟨0, 0, none⟩ = some (.slice ao 1 co)))
 have HN := hid (show BoxN (W0.alloc (.cells #[.bool false, .slice a l1 c, .bool false, .slice a' l2 c'] 47)).drew W0.heap.size 47 #[.bool false, .slice a l1 c, .bool false, .slice a' l2 c'] from BoxN.new W0 _ _)
 have HC0 := hid (show Below W0.heap.size W0 W0.drew by have h1 := Below.refl W0.heap.size W0; repeat' (first | (with_reducible exact Below.refl _ _) | (with_reducible assumption) | (with_reducible refine below_drewN ?_) | (with_reducible refine Below.alloc ?_ ?_ _) | (with_reducible refine Below.drew ?_) | (with_reducible refine Below.setCell ?_ ?_ _) | (with_reducible refine Below.trans ?_ (Below.mono (by with_reducible assumption) ?_)) | go_size))
 have HC := hid (show Below W0.heap.size W0 (W0.alloc (.cells #[.bool false, .slice a l1 c, .bool false, .slice a' l2 c'] 47)).drew by have h1 := Below.refl W0.heap.size W0; repeat' (first | (with_reducible exact Below.refl _ _) | (with_reducible assumption) | (with_reducible refine below_drewN ?_) | (with_reducible refine Below.alloc ?_ ?_ _) | (with_reducible refine Below.drew ?_) | (with_reducible refine Below.setCell ?_ ?_ _) | (with_reducible refine Below.trans ?_ (Below.mono (by with_reducible assumption) ?_)) | go_size))
 go_region_held3 (fun w' => w'.cell? ⟨w.heap.size, 0, none⟩ = some (.bool false) ∧ w'.cell? ⟨w.heap.size, 1, none⟩ = some (.slice a l1 c) ∧ w'.cell? ⟨w.heap.size, 2, none⟩ = some (.bool false) ∧ w'.cell? ⟨w.heap.size, 3, none⟩ = some (.slice a' l2 c') ∧ w'.cell? ⟨0, 0, none⟩ = some (.slice ao 1 co))
  (first | exact HG.out _ HC.out | exact HG.out _ HC0.out | go_keep)
  (first
   | (go_at_call 177; go_must (((with_reducible refine (HBI.out _ _ (HB0.out.trans (HC.out.mono HB0.out.size)) HN.out.lt (HN.out.cell 0 rfl) (HN.out.cell 1 rfl) (HN.out.cell 2 rfl) (HN.out.cell 3 rfl)).mono ?_); rintro e w5 ⟨rfl, hb5⟩; have HC := hid (HC.out.trans (hb5.mono HC.out.size)); clear hb5)))
   | (go_at_call 178; go_must (((with_reducible refine (HCO.out _ (HB0.out.trans (HC.out.mono HB0.out.size))).mono ?_); rintro e w6 ⟨v6, rfl, hr6, hb6⟩; have HC := hid (HC.out.trans (hb6.mono HC.out.size)); have HR6 := hid hr6.rd; clear hr6 hb6)))
   | (go_at_call 179; go_must (((with_reducible refine (HCM.out _ (HB0.out.trans (HC.out.mono HB0.out.size)) _ HR6.out).mono ?_); rintro e w7 ⟨rfl, k7, rfl⟩; have HC := hid (show Below W0.heap.size W0 (w6.drewN k7) by have h1 := HC.out; repeat' (first | (with_reducible exact Below.refl _ _) | (with_reducible assumption) | (with_reducible refine below_drewN ?_) | (with_reducible refine Below.alloc ?_ ?_ _) | (with_reducible refine Below.drew ?_) | (with_reducible refine Below.setCell ?_ ?_ _) | (with_reducible refine Below.trans ?_ (Below.mono (by with_reducible assumption) ?_)) | go_size))))))
 all_goals
  go_wp2_with fail
  go_ret
  exact ⟨rfl, HB0.out.trans (HC.out.mono HB0.out.size)⟩
end Go.Proofs.YthblaeleogdfpaaGreatDoor.Fr

namespace Go.Proofs.YthblaeleogdfpaaGreatDoor.Fr
open Go.RowKit
theorem RdB.kept {W W' : World} {v : Value} {neg : Bool} {xs : List Nat} (h : RdB W v neg xs) (hb : Below W.heap.size W W') : RdB W' v neg xs := by
 obtain ⟨a, c, e, h1⟩ := h
 exact ⟨a, c, e, h1.kept hb⟩
theorem belowT {w W W' : World} (h1 : Below w.heap.size w W) (h2 : Below W.heap.size W W') : Below w.heap.size w W' := h1.trans (h2.mono h1.size)
structure Sml (p q : Nat) : Prop where
  num : p < 4294967296
  pos : 0 < q
  den : q < 4294967296
  low : Nat.gcd p q = 1
set_option maxRecDepth 100000 in
set_option maxHeartbeats 4000000 in
theorem frac_Cmp (u v : Value) (p1 q1 p2 q2 : Nat) (w : World) (hu : RdF w u false p1 q1) (hv : RdF w v false p2 q2) (s1 : Sml p1 q1) (s2 : Sml p2 q2) (h1 : OneAt w) :
  Calls Tryz.prog 76 #[u, v] w (Ret w (.int .i64 (sgn (p1 * q2) (p2 * q1)))) := by
 have HV1 := hid (fun W (hW : Below w.heap.size w W) => frac_Valid u p1 q1 W (hu.kept hW) s1.num s1.pos s1.den s1.low (h1.below hW))
 have HV2 := hid (fun W (hW : Below w.heap.size w W) => frac_Valid v p2 q2 W (hv.kept hW) s2.num s2.pos s2.den s2.low (h1.below hW))
 have hdl : ∀ n, n < 18446744073709551616 → (dig n).length ≤ 2 := fun n hn => dig_length_le (k := 2) (by omega)
 have hm1 : p1 * q2 < 18446744073709551616 := by have := Nat.mul_lt_mul'' s1.num s2.den; omega
 have hm2 : p2 * q1 < 18446744073709551616 := by have := Nat.mul_lt_mul'' s2.num s1.den; omega
 obtain ⟨a1, c1, b1, d1, rfl, hx1, hy1⟩ := hu
 obtain ⟨a2, c2, b2, d2, rfl, hx2, hy2⟩ := hv
 have HP1 := hid (fun W (hW : Below w.heap.size w W) => frac_product (.agg #[.bool false, .slice a1 (dig p1).length c1]) (.agg #[.bool false, .slice b2 (dig q2).length d2]) p1 q2 W ⟨a1, c1, rfl, hx1.kept hW⟩ ⟨b2, d2, rfl, hy2.kept hW⟩ (Nat.le_trans (hdl _ (by have := s1.num; omega)) (by omega)) (Nat.le_trans (hdl _ (by have := s2.den; omega)) (by omega)) (Nat.le_trans (hdl _ hm1) (by omega)))
 have HP2 := hid (fun W (hW : Below w.heap.size w W) => frac_product (.agg #[.bool false, .slice a2 (dig p2).length c2]) (.agg #[.bool false, .slice b1 (dig q1).length d1]) p2 q1 W ⟨a2, c2, rfl, hx2.kept hW⟩ ⟨b1, d1, rfl, hy1.kept hW⟩ (Nat.le_trans (hdl _ (by have := s2.num; omega)) (by omega)) (Nat.le_trans (hdl _ (by have := s1.den; omega)) (by omega)) (Nat.le_trans (hdl _ hm2) (by omega)))
 have HOP := hid (fun W x (h : RdB W x false (dig (p2 * q1))) => frac_opposite x (p2 * q1) W h)
 have HSU := hid (fun W x y (h : RdB W x false (dig (p1 * q2))) (h2 : RdB W y (decide (0 < p2 * q1)) (dig (p2 * q1))) => frac_sum x y (p1 * q2) (p2 * q1) W h h2 hm1 hm2)
 clear hx1 hx2 hy1 hy2 s1 s2 hm1 hm2 hdl h1
 generalize (dig p1).length = l1 at *
 generalize (dig q1).length = k1 at *
 generalize (dig p2).length = l2 at *
 generalize (dig q2).length = k2 at *
 generalize p1 * q2 = X at *
 generalize p2 * q1 = Y at *
 have HX1 := hid ((BoxN.new w #[.bool false, .slice a1 l1 c1, .bool false, .slice b1 k1 d1] 49).alloc (.cells #[.bool false, .slice a2 l2 c2, .bool false, .slice b2 k2 d2] 49))
 have hx2 := BoxN.new (w.alloc (.cells #[.bool false, .slice a1 l1 c1, .bool false, .slice b1 k1 d1] 49)) #[.bool false, .slice a2 l2 c2, .bool false, .slice b2 k2 d2] 49
 rw [World.size_alloc] at hx2
 have HX2 := hid hx2
 have HB0 := hid (((Below.refl w.heap.size w).alloc (Nat.le_refl _) (.cells #[.bool false, .slice a1 l1 c1, .bool false, .slice b1 k1 d1] 49)).alloc (by simp) (.cells #[.bool false, .slice a2 l2 c2, .bool false, .slice b2 k2 d2] 49))
 have hz : ((w.alloc (.cells #[.bool false, .slice a1 l1 c1, .bool false, .slice b1 k1 d1] 49)).alloc (.cells #[.bool false, .slice a2 l2 c2, .bool false, .slice b2 k2 d2] 49)).heap.size = w.heap.size + 2 := by simp
 have HZ := hid hz
 clear hx2 hz
 go_enter Tryz.func76, Tryz.ntmps76
 go_wp2_with fail
 generalize (w.alloc (.cells #[.bool false, .slice a1 l1 c1, .bool false, .slice b1 k1 d1] 49)).alloc (.cells #[.bool false, .slice a2 l2 c2, .bool false, .slice b2 k2 d2] 49) = W0 at *
 with_reducible refine (HV1.out _ HB0.out).mono ?_
 rintro e w1 ⟨rfl, hb1⟩
 have HY1 := hid (HX1.out.below hb1 HX1.out.lt)
 have HY2 := hid (HX2.out.below hb1 HX2.out.lt)
 have HB1 := hid (belowT HB0.out hb1)
 clear hb1 HX1 HX2 HB0
 have c0 := HY2.out.cell 0 rfl
 have c1' := HY2.out.cell 1 rfl
 have c2' := HY2.out.cell 2 rfl
 have c3 := HY2.out.cell 3 rfl
 go_wp2_with fail
 with_reducible refine (HV2.out _ HB1.out).mono ?_
 rintro e w2 ⟨rfl, hb2⟩
 clear c0 c1' c2' c3
 have HX1 := hid (HY1.out.below hb2 HY1.out.lt)
 have HX2 := hid (HY2.out.below hb2 HY2.out.lt)
 have HB0 := hid (belowT HB1.out hb2)
 clear hb2 HY1 HY2 HB1
 go_upto_region 3 with fail
 have HG := hid (fun W (hW : Below w2.heap.size w2 W) => (⟨(HX1.out.below hW HX1.out.lt).cell 0 rfl, (HX1.out.below hW HX1.out.lt).cell 1 rfl, (HX1.out.below hW HX1.out.lt).cell 2 rfl, (HX1.out.below hW HX1.out.lt).cell 3 rfl, (HX2.out.below hW HX2.out.lt).cell 0 rfl, (HX2.out.below hW HX2.out.lt).cell 1 rfl, (HX2.out.below hW HX2.out.lt).cell 2 rfl, (HX2.out.below hW HX2.out.lt).cell 3 rfl⟩ : W.cell? ⟨w.heap.size, 0, none⟩ = some (.bool false) ∧ W.cell? ⟨w.heap.size, 1, none⟩ = some (.slice a1 l1 c1) ∧ W.cell? ⟨w.heap.size, 2, none⟩ = some (.bool false) ∧ W.cell? ⟨w.heap.size, 3, none⟩ = some (.slice b1 k1 d1) ∧ W.cell? ⟨w.heap.size + 1, 0, none⟩ = some (.bool false) ∧ W.cell? ⟨w.heap.size + 1, 1, none⟩ = some (.slice a2 l2 c2) ∧ W.cell? ⟨w.heap.size + 1, 2, none⟩ = some (.bool false) ∧ W.cell? ⟨w.heap.size + 1, 3, none⟩ = some (.slice b2 k2 d2)))
 have HC := hid (show Below w2.heap.size w2 w2.drew by have h1 := Below.refl w2.heap.size w2; repeat' (first | (with_reducible exact Below.refl _ _) | (with_reducible assumption) | (with_reducible refine below_drewN ?_) | (with_reducible refine Below.alloc ?_ ?_ _) | (with_reducible refine Below.drew ?_) | (with_reducible refine Below.setCell ?_ ?_ _) | (with_reducible refine Below.trans ?_ (Below.mono (by with_reducible assumption) ?_)) | go_size))
 go_region_held3 (fun w' => w'.cell? ⟨w.heap.size, 0, none⟩ = some (.bool false) ∧ w'.cell? ⟨w.heap.size, 1, none⟩ = some (.slice a1 l1 c1) ∧ w'.cell? ⟨w.heap.size, 2, none⟩ = some (.bool false) ∧ w'.cell? ⟨w.heap.size, 3, none⟩ = some (.slice b1 k1 d1) ∧ w'.cell? ⟨w.heap.size + 1, 0, none⟩ = some (.bool false) ∧ w'.cell? ⟨w.heap.size + 1, 1, none⟩ = some (.slice a2 l2 c2) ∧ w'.cell? ⟨w.heap.size + 1, 2, none⟩ = some (.bool false) ∧ w'.cell? ⟨w.heap.size + 1, 3, none⟩ = some (.slice b2 k2 d2))
  (first | exact HG.out _ HC.out | exact HG.out _ (HC.out.alloc HC.out.size _) | exact HG.out _ (by have h1 := HC.out; have h2 := HC.out.size; repeat' (first | (with_reducible exact Below.refl _ _) | (with_reducible assumption) | (with_reducible refine below_drewN ?_) | (with_reducible refine Below.alloc ?_ ?_ _) | (with_reducible refine Below.drew ?_) | (with_reducible refine Below.setCell ?_ ?_ _) | (with_reducible refine Below.trans ?_ (Below.mono (by with_reducible assumption) ?_)) | go_size)) | exact HG.out _ (by have h0 := Below.refl w2.heap.size w2; repeat' (first | (with_reducible exact Below.refl _ _) | (with_reducible assumption) | (with_reducible refine below_drewN ?_) | (with_reducible refine Below.alloc ?_ ?_ _) | (with_reducible refine Below.drew ?_) | (with_reducible refine Below.setCell ?_ ?_ _) | (with_reducible refine Below.trans ?_ (Below.mono (by with_reducible assumption) ?_)) | go_size)) | go_keep)
  (first
   | (go_at_call 128; go_must (first
    | ((with_reducible refine (HP1.out _ (belowT HB0.out (by first | exact HC.out | exact HC.out.alloc HC.out.size _ | (have h0 := Below.refl w2.heap.size w2; repeat' (first | (with_reducible exact Below.refl _ _) | (with_reducible assumption) | (with_reducible refine below_drewN ?_) | (with_reducible refine Below.alloc ?_ ?_ _) | (with_reducible refine Below.drew ?_) | (with_reducible refine Below.setCell ?_ ?_ _) | (with_reducible refine Below.trans ?_ (Below.mono (by with_reducible assumption) ?_)) | go_size))))).mono ?_); rintro e w5 ⟨a5, c5, rfl, hr5, ho5, hb5⟩; (first | (have HNB := hid (HNB.out.below hb5 HNB.out.lt)) | (have HNB := hid ((BoxN.new _ #[.bool false, .slice none 0 0] 47).below hb5 (by simp))) | (have HNB := hid ((show BoxN (w2.alloc (.cells #[.bool false, .slice none 0 0] 47)).drew w2.heap.size _ _ from BoxN.new w2 _ _).below hb5 (by show w2.heap.size < (w2.alloc (.cells #[.bool false, .slice none 0 0] 47)).heap.size; simp))) | skip); have HC := hid (belowT (show Below w2.heap.size w2 _ from (by first | exact HC.out | exact HC.out.alloc HC.out.size _ | (have h0 := Below.refl w2.heap.size w2; repeat' (first | (with_reducible exact Below.refl _ _) | (with_reducible assumption) | (with_reducible refine below_drewN ?_) | (with_reducible refine Below.alloc ?_ ?_ _) | (with_reducible refine Below.drew ?_) | (with_reducible refine Below.setCell ?_ ?_ _) | (with_reducible refine Below.trans ?_ (Below.mono (by with_reducible assumption) ?_)) | go_size)))) hb5); have hs5 := HC.out.size; have HS5 := hid (Below.refl w5.heap.size w5); have HR5 : Hid (∀ W, Below w5.heap.size w5 W → RdB W (.agg #[.bool false, .slice a5 (dig X).length c5]) false (dig X)) := hid (fun W hW => ⟨_, _, rfl, hr5.kept hW⟩); clear hr5 ho5 hb5)
    | ((with_reducible refine (HP2.out _ (belowT HB0.out (by first | exact HC.out | exact HC.out.alloc HC.out.size _ | (have h0 := Below.refl w2.heap.size w2; repeat' (first | (with_reducible exact Below.refl _ _) | (with_reducible assumption) | (with_reducible refine below_drewN ?_) | (with_reducible refine Below.alloc ?_ ?_ _) | (with_reducible refine Below.drew ?_) | (with_reducible refine Below.setCell ?_ ?_ _) | (with_reducible refine Below.trans ?_ (Below.mono (by with_reducible assumption) ?_)) | go_size))))).mono ?_); rintro e w6 ⟨a6, c6, rfl, hr6, ho6, hb6⟩; (first | (have HNB := hid (HNB.out.below hb6 HNB.out.lt)) | (have HNB := hid ((BoxN.new _ #[.bool false, .slice none 0 0] 47).below hb6 (by simp))) | (have HNB := hid ((show BoxN (w2.alloc (.cells #[.bool false, .slice none 0 0] 47)).drew w2.heap.size _ _ from BoxN.new w2 _ _).below hb6 (by show w2.heap.size < (w2.alloc (.cells #[.bool false, .slice none 0 0] 47)).heap.size; simp))) | skip); have HC := hid (belowT (show Below w2.heap.size w2 _ from (by first | exact HC.out | exact HC.out.alloc HC.out.size _ | (have h0 := Below.refl w2.heap.size w2; repeat' (first | (with_reducible exact Below.refl _ _) | (with_reducible assumption) | (with_reducible refine below_drewN ?_) | (with_reducible refine Below.alloc ?_ ?_ _) | (with_reducible refine Below.drew ?_) | (with_reducible refine Below.setCell ?_ ?_ _) | (with_reducible refine Below.trans ?_ (Below.mono (by with_reducible assumption) ?_)) | go_size)))) hb6); have hs6 := HC.out.size; have HS5 := hid (belowT (show Below w5.heap.size w5 _ from (by first | exact HS5.out | exact HS5.out.alloc HS5.out.size _ | (have h0 := Below.refl w2.heap.size w2; repeat' (first | (with_reducible exact Below.refl _ _) | (with_reducible assumption) | (with_reducible refine below_drewN ?_) | (with_reducible refine Below.alloc ?_ ?_ _) | (with_reducible refine Below.drew ?_) | (with_reducible refine Below.setCell ?_ ?_ _) | (with_reducible refine Below.trans ?_ (Below.mono (by with_reducible assumption) ?_)) | go_size)))) hb6); have HS6 := hid (Below.refl w6.heap.size w6); have HR6 : Hid (∀ W, Below w6.heap.size w6 W → RdB W (.agg #[.bool false, .slice a6 (dig Y).length c6]) false (dig Y)) := hid (fun W hW => ⟨_, _, rfl, hr6.kept hW⟩); clear hr6 ho6 hb6)))
   | (go_at_call 129; go_must ((with_reducible refine (HOP.out _ _ (HR6.out _ (by first | exact HS6.out | exact HS6.out.alloc HS6.out.size _ | (have h0 := Below.refl w2.heap.size w2; repeat' (first | (with_reducible exact Below.refl _ _) | (with_reducible assumption) | (with_reducible refine below_drewN ?_) | (with_reducible refine Below.alloc ?_ ?_ _) | (with_reducible refine Below.drew ?_) | (with_reducible refine Below.setCell ?_ ?_ _) | (with_reducible refine Below.trans ?_ (Below.mono (by with_reducible assumption) ?_)) | go_size))))).mono ?_); rintro e w7 ⟨v7, rfl, hb7, hr7⟩; (first | (have HNB := hid (HNB.out.below hb7 HNB.out.lt)) | (have HNB := hid ((BoxN.new _ #[.bool false, .slice none 0 0] 47).below hb7 (by simp))) | (have HNB := hid ((show BoxN (w2.alloc (.cells #[.bool false, .slice none 0 0] 47)).drew w2.heap.size _ _ from BoxN.new w2 _ _).below hb7 (by show w2.heap.size < (w2.alloc (.cells #[.bool false, .slice none 0 0] 47)).heap.size; simp))) | skip); have HC := hid (belowT (show Below w2.heap.size w2 _ from (by first | exact HC.out | exact HC.out.alloc HC.out.size _ | (have h0 := Below.refl w2.heap.size w2; repeat' (first | (with_reducible exact Below.refl _ _) | (with_reducible assumption) | (with_reducible refine below_drewN ?_) | (with_reducible refine Below.alloc ?_ ?_ _) | (with_reducible refine Below.drew ?_) | (with_reducible refine Below.setCell ?_ ?_ _) | (with_reducible refine Below.trans ?_ (Below.mono (by with_reducible assumption) ?_)) | go_size)))) hb7); have hs7 := HC.out.size; have HS5 := hid (belowT (show Below w5.heap.size w5 _ from (by first | exact HS5.out | exact HS5.out.alloc HS5.out.size _ | (have h0 := Below.refl w2.heap.size w2; repeat' (first | (with_reducible exact Below.refl _ _) | (with_reducible assumption) | (with_reducible refine below_drewN ?_) | (with_reducible refine Below.alloc ?_ ?_ _) | (with_reducible refine Below.drew ?_) | (with_reducible refine Below.setCell ?_ ?_ _) | (with_reducible refine Below.trans ?_ (Below.mono (by with_reducible assumption) ?_)) | go_size)))) hb7); have HS7 := hid (Below.refl w7.heap.size w7); have HR7 := hid (fun W (hW : Below w7.heap.size w7 W) => hr7.kept hW); clear hr7 hb7))
   | (go_at_call 127; go_must ((with_reducible refine (HSU.out _ _ _ (HR5.out _ (by first | exact HS5.out | exact HS5.out.alloc HS5.out.size _ | (have h0 := Below.refl w2.heap.size w2; repeat' (first | (with_reducible exact Below.refl _ _) | (with_reducible assumption) | (with_reducible refine below_drewN ?_) | (with_reducible refine Below.alloc ?_ ?_ _) | (with_reducible refine Below.drew ?_) | (with_reducible refine Below.setCell ?_ ?_ _) | (with_reducible refine Below.trans ?_ (Below.mono (by with_reducible assumption) ?_)) | go_size)))) (HR7.out _ (by first | exact HS7.out | exact HS7.out.alloc HS7.out.size _ | (have h0 := Below.refl w2.heap.size w2; repeat' (first | (with_reducible exact Below.refl _ _) | (with_reducible assumption) | (with_reducible refine below_drewN ?_) | (with_reducible refine Below.alloc ?_ ?_ _) | (with_reducible refine Below.drew ?_) | (with_reducible refine Below.setCell ?_ ?_ _) | (with_reducible refine Below.trans ?_ (Below.mono (by with_reducible assumption) ?_)) | go_size))))).mono ?_); rintro e w8 ⟨a8, c8, D, rfl, hD, hb8⟩; (first | (have HNB := hid (HNB.out.below hb8 HNB.out.lt)) | (have HNB := hid ((BoxN.new _ #[.bool false, .slice none 0 0] 47).below hb8 (by simp))) | (have HNB := hid ((show BoxN (w2.alloc (.cells #[.bool false, .slice none 0 0] 47)).drew w2.heap.size _ _ from BoxN.new w2 _ _).below hb8 (by show w2.heap.size < (w2.alloc (.cells #[.bool false, .slice none 0 0] 47)).heap.size; simp))) | skip); have HC := hid (belowT (show Below w2.heap.size w2 _ from (by first | exact HC.out | exact HC.out.alloc HC.out.size _ | (have h0 := Below.refl w2.heap.size w2; repeat' (first | (with_reducible exact Below.refl _ _) | (with_reducible assumption) | (with_reducible refine below_drewN ?_) | (with_reducible refine Below.alloc ?_ ?_ _) | (with_reducible refine Below.drew ?_) | (with_reducible refine Below.setCell ?_ ?_ _) | (with_reducible refine Below.trans ?_ (Below.mono (by with_reducible assumption) ?_)) | go_size)))) hb8); have hs8 := HC.out.size; have HD := hid hD; (first | (have n0 := HNB.out.cell 0 rfl; have n1 := HNB.out.cell 1 rfl; have nf0 := HNB.out.frozen 0; have nf1 := HNB.out.frozen 1) | skip); clear hb8 hD)))
 all_goals
  have hDl : 0 < (dig D).length ↔ X ≠ Y := dig_length_pos.trans HD.out
  generalize (dig D).length = ld at *
  have hz0 := HB0.out.size
  have HF := hid (belowT HB0.out HC.out)
  have hzf := HF.out.size
  clear HC HD HV1 HV2 HP1 HP2 HOP HSU HG
  rcases Nat.lt_trichotomy X Y with h | h | h
  ·have hx : decide (X < Y) = true := decide_eq_true h
   clear hDl
   go_wp2
   go_ret
   exact ⟨by rw [sgn_lt h]; rfl, by have h1 := HF.out; repeat' (first | (with_reducible exact Below.refl _ _) | (with_reducible assumption) | (with_reducible refine below_drewN ?_) | (with_reducible refine Below.alloc ?_ ?_ _) | (with_reducible refine Below.drew ?_) | (with_reducible refine Below.setCell ?_ ?_ _) | (with_reducible refine Below.trans ?_ (Below.mono (by with_reducible assumption) ?_)) | go_size)⟩
  ·have hx : decide (X < Y) = false := decide_eq_false (by omega)
   have hl0 : ld = 0 := by have h1 := hDl; simp [h] at h1; omega
   subst hl0
   clear hDl
   go_wp2
   go_ret
   exact ⟨by rw [show sgn X Y = 0 from by rw [h, sgn_self]]; rfl, by have h1 := HF.out; repeat' (first | (with_reducible exact Below.refl _ _) | (with_reducible assumption) | (with_reducible refine below_drewN ?_) | (with_reducible refine Below.alloc ?_ ?_ _) | (with_reducible refine Below.drew ?_) | (with_reducible refine Below.setCell ?_ ?_ _) | (with_reducible refine Below.trans ?_ (Below.mono (by with_reducible assumption) ?_)) | go_size)⟩
  ·have hx : decide (X < Y) = false := decide_eq_false (by omega)
   have hl2 : 0 < ld := hDl.2 (by omega)
   have hl0 : decide ((0 : Int) < (ld : Int)) = true := decide_eq_true (by omega)
   have hl1 : decide (0 < ld) = true := decide_eq_true hl2
   clear hDl
   go_wp2
   go_ret
   exact ⟨by rw [sgn_gt h]; rfl, by have h1 := HF.out; repeat' (first | (with_reducible exact Below.refl _ _) | (with_reducible assumption) | (with_reducible refine below_drewN ?_) | (with_reducible refine Below.alloc ?_ ?_ _) | (with_reducible refine Below.drew ?_) | (with_reducible refine Below.setCell ?_ ?_ _) | (with_reducible refine Below.trans ?_ (Below.mono (by with_reducible assumption) ?_)) | go_size)⟩
end Go.Proofs.YthblaeleogdfpaaGreatDoor.Fr

namespace Go.Proofs.YthblaeleogdfpaaGreatDoor
open Go.RowKit
structure Po where
  kind : Int
  col : Int
  text : ByteArray
  cols : List Int
def Po.val (o : Po) (v : Value) : Value := .agg #[.int .i64 o.kind, .int .i64 o.col, .string o.text, v]
def cmpC (a b : Cl) : Int := if a.null = true ∧ b.null = true then 0 else if a.null = true then -1 else if b.null = true then 1 else if sl a.text b.text = true then -1 else if a.text = b.text then 0 else 1
def thereL (n : Nat) (k : Int) : Bool := decide (0 ≤ k) && decide (k < n)
def canL (n : Nat) (o : Po) : Bool :=
  if o.kind = 1 then thereL n o.col && decide (o.cols.length = 0) && decide (o.text.size ≤ 1024)
  else if o.kind = 2 ∨ o.kind = 5 then thereL n o.col && decide (o.cols.length = 0) && decide (o.text.size = 0)
  else if o.kind = 3 then o.cols.all (thereL n) && (decide (o.col = 0) && decide (o.text.size = 0) && decide (o.cols.length ≤ 64))
  else decide (o.kind = 4) && decide (o.col = 0) && decide (o.text.size = 0) && decide (o.cols.length = 0)
def eqRow (xs : List Co) (x y : Nat) : Bool := xs.all fun c => decide (c.cells.getD x Cl.z = c.cells.getD y Cl.z)
def keepL (xs : List Co) (o : Po) (out : List Nat) (r : Nat) : Bool :=
  if o.kind = 1 then !(cellAt xs o.col.toNat r).null && decide ((cellAt xs o.col.toNat r).text = o.text)
  else if o.kind = 2 then !(cellAt xs o.col.toNat r).null
  else if o.kind = 4 then out.all fun x => !eqRow xs x r
  else true
def sortAt (f : Nat → Bool) (out : List Nat) : Nat → Nat
  | 0 => 0
  | k + 1 => if f (out.getD k 0) = true then sortAt f out k else k + 1
def gtC (xs : List Co) (c r x : Nat) : Bool := decide (0 < cmpC (cellAt xs c x) (cellAt xs c r))
def atL (xs : List Co) (o : Po) (out : List Nat) (r : Nat) : Nat := if o.kind = 5 then sortAt (gtC xs o.col.toNat r) out out.length else out.length
def stepL (xs : List Co) (o : Po) (out : List Nat) (r : Nat) : List Nat := if keepL xs o out r = true then out.take (atL xs o out r) ++ r :: out.drop (atL xs o out r) else out
def rowsL (xs : List Co) (o : Po) (n : Nat) : List Nat := (List.range n).foldl (stepL xs o) []
def projL (xs : List Co) (ks : List Int) : List Co := ks.map fun k => xs.getD k.toNat Co.z
def pickC (c : Co) (rs : List Nat) : Co := ⟨c.name, rs.map fun r => c.cells.getD r Cl.z⟩
def selL (xs : List Co) (rs : List Nat) : List Co := xs.map fun c => pickC c rs
def doL (xs : List Co) (o : Po) : List Co := if o.kind = 3 then projL xs o.cols else selL xs (rowsL xs o (rowsC xs))
theorem sortAt_le (f : Nat → Bool) (out : List Nat) : ∀ k, sortAt f out k ≤ k
 | 0 => Nat.le_refl _
 | k + 1 => by
  unfold sortAt
  split
  ·exact Nat.le_succ_of_le (sortAt_le f out k)
  ·exact Nat.le_refl _
theorem atL_le (xs : List Co) (o : Po) (out : List Nat) (r : Nat) : atL xs o out r ≤ out.length := by
 unfold atL
 split
 ·exact sortAt_le _ _ _
 ·exact Nat.le_refl _
theorem stepL_len (xs : List Co) (o : Po) (out : List Nat) (r : Nat) : (stepL xs o out r).length ≤ out.length + 1 := by
 unfold stepL
 split
 ·have := atL_le xs o out r
  simp
  omega
 ·omega
theorem stepL_mem {xs : List Co} {o : Po} {out : List Nat} {r x : Nat} (h : x ∈ stepL xs o out r) : x ∈ out ∨ x = r := by
 unfold stepL at h
 split at h
 ·rcases List.mem_append.1 h with h | h
  ·exact .inl (List.mem_of_mem_take h)
  ·rcases List.mem_cons.1 h with h | h
   ·exact .inr h
   ·exact .inl (List.mem_of_mem_drop h)
 ·exact .inl h
theorem rowsL_succ (xs : List Co) (o : Po) (n : Nat) : rowsL xs o (n + 1) = stepL xs o (rowsL xs o n) n := by simp [rowsL, List.range_succ]
theorem rowsL_ok (xs : List Co) (o : Po) : ∀ n, (rowsL xs o n).length ≤ n ∧ ∀ x ∈ rowsL xs o n, x < n
 | 0 => ⟨Nat.le_refl _, fun x h => by cases h⟩
 | n + 1 => by
  obtain ⟨h1, h2⟩ := rowsL_ok xs o n
  rw [rowsL_succ]
  refine ⟨Nat.le_trans (stepL_len _ _ _ _) (by omega), fun x hx => ?_⟩
  rcases stepL_mem hx with h | rfl
  ·have := h2 x h; omega
  ·omega
def ColsV (xs : List Co) (n : Nat) : Prop := ∀ x ∈ xs, TextOk 1024 x.name ∧ x.cells.length = n ∧ ∀ c ∈ x.cells, CellOk c
theorem TabV.cv {t : Ta} (h : TabV t) : ∃ n, n ≤ 4096 ∧ ColsV t.cols n := h.2.2.2.2
theorem sel_ok {xs : List Co} {n : Nat} (h : ColsV xs n) {rs : List Nat} (hr : ∀ r ∈ rs, r < n) : ColsV (selL xs rs) rs.length := by
 intro x hx
 obtain ⟨c, hc, rfl⟩ := List.mem_map.1 hx
 obtain ⟨h1, h2, h3⟩ := h c hc
 refine ⟨h1, by simp [pickC], fun d hd => ?_⟩
 obtain ⟨r, hrr, rfl⟩ := List.mem_map.1 hd
 have : r < c.cells.length := by rw [h2]; exact hr r hrr
 exact h3 _ (by rw [List.getD, List.getElem?_eq_getElem this]; exact List.getElem_mem this)
theorem proj_ok {xs : List Co} {n : Nat} (h : ColsV xs n) {ks : List Int} (hk : ks.all (thereL xs.length) = true) : ColsV (projL xs ks) n := by
 intro x hx
 obtain ⟨k, hkk, rfl⟩ := List.mem_map.1 hx
 have h1 := List.all_eq_true.1 hk k hkk
 unfold thereL at h1
 simp at h1
 have : k.toNat < xs.length := by omega
 exact h _ (by rw [List.getD, List.getElem?_eq_getElem this]; exact List.getElem_mem this)
theorem rowsC_of {xs : List Co} {n : Nat} (h : ColsV xs n) (hp : 0 < xs.length) : rowsC xs = n := by
 unfold rowsC
 refine (h _ ?_).2.1
 rw [List.getD, List.getElem?_eq_getElem hp]
 exact List.getElem_mem hp
theorem do_valid {t : Ta} (h : TabV t) {o : Po} (hc : canL t.cols.length o = true) : TabV ⟨t.id, t.name, doL t.cols o⟩ := by
 obtain ⟨h0, h1, h2, h3, n, hn, hx⟩ := h
 unfold doL
 by_cases h3' : o.kind = 3
 ·have hc2 : o.cols.all (thereL t.cols.length) = true ∧ o.cols.length ≤ 64 := by
   unfold canL at hc
   rw [if_neg (by omega), if_neg (by omega), if_pos h3'] at hc
   simp only [Bool.and_eq_true, decide_eq_true_eq] at hc
   exact ⟨hc.1, hc.2.2⟩
  rw [if_pos h3']
  refine ⟨h0, h1, h2, by simpa [projL] using hc2.2, n, hn, proj_ok hx hc2.1⟩
 ·rw [if_neg h3']
  obtain ⟨r1, r2⟩ := rowsL_ok t.cols o (rowsC t.cols)
  rcases Nat.eq_zero_or_pos t.cols.length with hz | hp
  ·have e : t.cols = [] := List.eq_nil_of_length_eq_zero hz
   refine ⟨h0, h1, h2, by simp [selL, e], 0, by omega, fun x hx => by simp [selL, e] at hx⟩
  ·have hrc := rowsC_of hx hp
   rw [hrc] at r1 r2 ⊢
   exact ⟨h0, h1, h2, by simpa [selL] using h3, _, by omega, sel_ok hx r2⟩
end Go.Proofs.YthblaeleogdfpaaGreatDoor
