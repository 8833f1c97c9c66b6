/- Contracts of fraction's product, opposite, sum. Contract of fraction.sum, at a number that is not negative and one that is turned round. -/
import Derived.Deep.Cut
import Derived.Deep.RegionHeld3
import Derived.Test.YthblaeleogdfpaaGreatDoorCToar
import Derived.Test.YthblaeleogdfpaaGreatDoorCToab
set_option linter.unusedVariables false
set_option linter.unusedSimpArgs false
namespace Go.Proofs.YthblaeleogdfpaaGreatDoor.Fr
open Go.RowKit
set_option maxRecDepth 100000 in
set_option maxHeartbeats 2000000 in
theorem frac_product (u v : Value) (m n : Nat) (w : World) (hu : RdB w u false (dig m)) (hv : RdB w v false (dig n)) (hlm : (dig m).length ≤ 1048576) (hln : (dig n).length ≤ 1048576) (hlp : (dig (m * n)).length ≤ 1073741824) :
  Calls Tryz.prog 128 #[u, v] w (GivesZ [] w false (m * n)) := by
 obtain ⟨a, c, rfl, hu⟩ := hu
 obtain ⟨a', c', rfl, hv⟩ := hv
 have HTI := hid (fun W (hW : Below w.heap.size w W) => frac_times _ _ (dig m) (dig n) W (hu.kept hW) (hv.kept hW) (by omega) (by omega))
 rw [val_dig, val_dig] at HTI
 have HSG := hid (fun W s (hs : Rd32 W s (dig (m * n))) => frac_signed false s (m * n) W hs hlp)
 clear hu hv
 generalize (dig m).length = l1 at *
 generalize (dig n).length = l2 at *
 generalize m * n = p at *
 have hx1 := ((BoxN.new w #[.bool false, .slice a l1 c] 47).alloc (.cells #[.bool false, .slice a' l2 c'] 47)).alloc (.cells #[.bool false, .slice none 0 0] 47)
 have HX1 := hid hx1
 have hx2 := (BoxN.new (w.alloc (.cells #[.bool false, .slice a l1 c] 47)) #[.bool false, .slice a' l2 c'] 47).alloc (.cells #[.bool false, .slice none 0 0] 47)
 rw [World.size_alloc] at hx2
 have HX2 := hid hx2
 have hx3 := BoxN.new ((w.alloc (.cells #[.bool false, .slice a l1 c] 47)).alloc (.cells #[.bool false, .slice a' l2 c'] 47)) #[.bool false, .slice none 0 0] 47
 rw [World.size_alloc, World.size_alloc] at hx3
 have HX3 := hid hx3
 have HB0 := hid ((((Below.refl w.heap.size w).alloc (Nat.le_refl _) (.cells #[.bool false, .slice a l1 c] 47)).alloc (by simp) (.cells #[.bool false, .slice a' l2 c'] 47)).alloc (by simp; omega) (.cells #[.bool false, .slice none 0 0] 47))
 clear hx1 hx2 hx3
 go_enter Tryz.func128, Tryz.ntmps128
 go_upto_region 1 with fail
 generalize (((w.alloc (.cells #[.bool false, .slice a l1 c] 47)).alloc (.cells #[.bool false, .slice a' l2 c'] 47)).alloc (.cells #[.bool false, .slice none 0 0] 47)) = W0 at *
 have hz0 := HX3.out.lt
 have HG := hid (fun W (hW : Below W0.heap.size W0 W) => (⟨(HX1.out.below hW HX1.out.lt).cell 0 rfl, (HX1.out.below hW HX1.out.lt).cell 1 rfl, (HX2.out.below hW HX2.out.lt).cell 0 rfl, (HX2.out.below hW HX2.out.lt).cell 1 rfl⟩ : W.cell? ⟨w.heap.size, 0, none⟩ = some (.bool false) ∧ W.cell? ⟨w.heap.size, 1, none⟩ = some (.slice a l1 c) ∧ W.cell? ⟨w.heap.size + 1, 0, none⟩ = some (.bool false) ∧ W.cell? ⟨w.heap.size + 1, 1, none⟩ = some (.slice a' l2 c')))
 have HG2 := hid (fun W (hW : Below W0.heap.size W0 W) (x y : Value) => (⟨(((HX1.out.below hW HX1.out.lt).other (p := ⟨w.heap.size + 2, 0, none⟩) (by show w.heap.size + 2 ≠ w.heap.size; omega) x).other (p := ⟨w.heap.size + 2, 1, none⟩) (by show w.heap.size + 2 ≠ w.heap.size; omega) y).cell 0 rfl, (((HX1.out.below hW HX1.out.lt).other (p := ⟨w.heap.size + 2, 0, none⟩) (by show w.heap.size + 2 ≠ w.heap.size; omega) x).other (p := ⟨w.heap.size + 2, 1, none⟩) (by show w.heap.size + 2 ≠ w.heap.size; omega) y).cell 1 rfl, (((HX2.out.below hW HX2.out.lt).other (p := ⟨w.heap.size + 2, 0, none⟩) (by show w.heap.size + 2 ≠ w.heap.size + 1; omega) x).other (p := ⟨w.heap.size + 2, 1, none⟩) (by show w.heap.size + 2 ≠ w.heap.size + 1; omega) y).cell 0 rfl, (((HX2.out.below hW HX2.out.lt).other (p := ⟨w.heap.size + 2, 0, none⟩) (by show w.heap.size + 2 ≠ w.heap.size + 1; omega) x).other (p := ⟨w.heap.size + 2, 1, none⟩) (by show w.heap.size + 2 ≠ w.heap.size + 1; omega) y).cell 1 rfl⟩ : ((W.setCell ⟨w.heap.size + 2, 0, none⟩ x).setCell ⟨w.heap.size + 2, 1, none⟩ y).cell? ⟨w.heap.size, 0, none⟩ = some (.bool false) ∧ ((W.setCell ⟨w.heap.size + 2, 0, none⟩ x).setCell ⟨w.heap.size + 2, 1, none⟩ y).cell? ⟨w.heap.size, 1, none⟩ = some (.slice a l1 c) ∧ ((W.setCell ⟨w.heap.size + 2, 0, none⟩ x).setCell ⟨w.heap.size + 2, 1, none⟩ y).cell? ⟨w.heap.size + 1, 0, none⟩ = some (.bool false) ∧ ((W.setCell ⟨w.heap.size + 2, 0, none⟩ x).setCell ⟨w.heap.size + 2, 1, none⟩ y).cell? ⟨w.heap.size + 1, 1, none⟩ = some (.slice a' l2 c')))
 have HC := hid (show Below W0.heap.size W0 W0.drew by have h1 := Below.refl W0.heap.size W0; repeat' (first | (with_reducible exact Below.refl _ _) | (with_reducible assumption) | (with_reducible refine below_drewN ?_) | (with_reducible refine Below.alloc ?_ ?_ _) | (with_reducible refine Below.drew ?_) | (with_reducible refine Below.setCell ?_ ?_ _) | (with_reducible refine Below.trans ?_ (Below.mono (by with_reducible assumption) ?_)) | go_size))
 go_region_held3 (fun w' => w'.cell? ⟨w.heap.size, 0, none⟩ = some (.bool false) ∧ w'.cell? ⟨w.heap.size, 1, none⟩ = some (.slice a l1 c) ∧ w'.cell? ⟨w.heap.size + 1, 0, none⟩ = some (.bool false) ∧ w'.cell? ⟨w.heap.size + 1, 1, none⟩ = some (.slice a' l2 c'))
  (first | exact HG.out _ HC.out | exact HG2.out _ HC.out _ _ | go_keep)
  (first
   | (go_at_call 183; go_must (((with_reducible refine (HTI.out _ (HB0.out.trans (HC.out.mono HB0.out.size))).mono ?_); rintro e w5 ⟨a5, c5, rfl, hr5, ho5, hb5⟩; have HC := hid (HC.out.trans (hb5.mono HC.out.size)); have HS5 := hid HC.out.size; have HR5 := hid hr5; clear hr5 ho5 hb5)))
   | (go_at_call 180; go_must (((with_reducible refine (HSG.out _ _ HR5.out).mono ?_); rintro e w6 ⟨a6, c6, rfl, hr6, ho6, hb6⟩; have HC := hid (HC.out.trans (hb6.mono HC.out.size)); have HR6 := hid hr6; have HO6 := hid ho6; have hx6 := HX3.out.below HC.out hz0; have q0 := hx6.cell 0 rfl; have q1 := hx6.cell 1 rfl; have f0 := hx6.frozen 0; have f1 := hx6.frozen 1; clear hr6 ho6 hb6 hx6))))
 all_goals
  have hs5 := HS5.out
  go_wp2
  refine bodyPost_ret (by simp [results, Tryz.results128, go_sem, q0, q1]; rfl) rfl ?_
  exact ⟨a6, c6, rfl, (HR6.out.setCell (HO6.out _ (by simp; omega) (fun u hu => by cases hu))).setCell (HO6.out _ (by simp; omega) (fun u hu => by cases hu)), fun R hR _ => HO6.out R (by omega) (fun u hu => by cases hu), ((HB0.out.trans (HC.out.mono HB0.out.size)).setCell (by show w.heap.size ≤ w.heap.size + 2; omega) _).setCell (by show w.heap.size ≤ w.heap.size + 2; omega) _⟩
set_option maxHeartbeats 1000000 in
theorem frac_opposite (u : Value) (n : Nat) (w : World) (hu : RdB w u false (dig n)) :
  Calls Tryz.prog 129 #[u] w (fun e w' => ∃ v, e = .returned v ∧ Below w.heap.size w w' ∧ RdB w' v (decide (0 < n)) (dig n)) := by
 obtain ⟨a, c, rfl, hu⟩ := hu
 have HU := hid hu
 have hp : 0 < n ↔ 0 < (dig n).length := (dig_length_pos (n := n)).symm
 have hd : decide (0 < n) = decide (0 < (dig n).length) := by simp [hp]
 rw [hd]
 clear hu hp hd
 have HB0 := hid (((Below.refl w.heap.size w).alloc (Nat.le_refl _) (.cells #[.bool false, .slice a (dig n).length c] 47)).alloc (by simp) (.cells #[.bool false, .slice none 0 0] 47))
 have HR : Hid (∀ W, Below w.heap.size w W → RdB W (.agg #[.bool (decide (0 < (dig n).length)), .slice a (dig n).length c]) (decide (0 < (dig n).length)) (dig n)) := hid (fun W hW => ⟨a, c, rfl, HU.out.kept hW⟩)
 generalize (dig n).length = l at *
 by_cases h0 : 0 < l
 all_goals
  first | have hl : decide ((0 : Int) < (l : Int)) = true := decide_eq_true (by omega) | have hl : decide ((0 : Int) < (l : Int)) = false := decide_eq_false (by omega)
  go_enter Tryz.func129, Tryz.ntmps129
  go_wp2
  refine bodyPost_ret (v := .agg #[.bool (decide (0 < l)), .slice a l c]) (by simp [results, Tryz.results129, go_sem, h0]) rfl ⟨_, rfl, ?_, HR.out _ ?_⟩
  all_goals first | (have h1 := HB0.out; repeat' (first | (with_reducible exact Below.refl _ _) | (with_reducible assumption) | (with_reducible refine below_drewN ?_) | (with_reducible refine Below.alloc ?_ ?_ _) | (with_reducible refine Below.drew ?_) | (with_reducible refine Below.setCell ?_ ?_ _) | (with_reducible refine Below.trans ?_ (Below.mono (by with_reducible assumption) ?_)) | go_size)) | skip
end Go.Proofs.YthblaeleogdfpaaGreatDoor.Fr

namespace Go.Proofs.YthblaeleogdfpaaGreatDoor.Fr
open Go.RowKit
set_option maxRecDepth 100000 in
set_option maxHeartbeats 2000000 in
theorem frac_sum0 (u v : Value) (X Y : Nat) (w : World) (hu : RdB w u false (dig X)) (hv : RdB w v (decide (0 < Y)) (dig Y)) (hlm : (dig X).length ≤ 1048576) (hln : (dig Y).length ≤ 1048576) (hlp : (dig (X + Y)).length ≤ 1073741824) (h : Y = 0) :
  Calls Tryz.prog 127 #[u, v] w (fun e w' => ∃ a c, e = .returned (.agg #[.bool (false && decide (0 < X + Y)), .slice a (dig (X + Y)).length c]) ∧ Below w.heap.size w w') := by
 rw [show decide (0 < Y) = false from by simp; omega] at hv
 obtain ⟨a, c, rfl, hu⟩ := hu
 obtain ⟨a', c', rfl, hv⟩ := hv
 have HTI := hid (fun W (hW : Below w.heap.size w W) => frac_plus _ _ (dig X) (dig Y) W (hu.kept hW) (hv.kept hW) (by omega) (by omega))
 rw [val_dig, val_dig] at HTI
 have HSG := hid (fun W s (hs : Rd32 W s (dig (X + Y))) => frac_signed false s (X + Y) W hs hlp)
 have HCM := hid (fun W (hW : Below w.heap.size w W) => frac_compare (.slice a (dig X).length c) (.slice a' (dig Y).length c') (dig X) (dig Y) W (hu.kept hW) (hv.kept hW))
 rw [cmpL_dig] at HCM
 clear hu hv
 generalize (dig X).length = l1 at *
 generalize (dig Y).length = l2 at *
 obtain ⟨p, hp⟩ : ∃ p, p = X + Y := ⟨_, rfl⟩
 rw [← hp] at HTI HSG hlp ⊢
 clear hp
 have hx1 := ((BoxN.new w #[.bool false, .slice a l1 c] 47).alloc (.cells #[.bool false, .slice a' l2 c'] 47)).alloc (.cells #[.bool false, .slice none 0 0] 47)
 have HX1 := hid hx1
 have hx2 := (BoxN.new (w.alloc (.cells #[.bool false, .slice a l1 c] 47)) #[.bool false, .slice a' l2 c'] 47).alloc (.cells #[.bool false, .slice none 0 0] 47)
 rw [World.size_alloc] at hx2
 have HX2 := hid hx2
 have hx3 := BoxN.new ((w.alloc (.cells #[.bool false, .slice a l1 c] 47)).alloc (.cells #[.bool false, .slice a' l2 c'] 47)) #[.bool false, .slice none 0 0] 47
 rw [World.size_alloc, World.size_alloc] at hx3
 have HX3 := hid hx3
 have HB0 := hid ((((Below.refl w.heap.size w).alloc (Nat.le_refl _) (.cells #[.bool false, .slice a l1 c] 47)).alloc (by simp) (.cells #[.bool false, .slice a' l2 c'] 47)).alloc (by simp; omega) (.cells #[.bool false, .slice none 0 0] 47))
 clear hx1 hx2 hx3
 go_enter Tryz.func127, Tryz.ntmps127
 go_upto_region 1 with fail
 generalize (((w.alloc (.cells #[.bool false, .slice a l1 c] 47)).alloc (.cells #[.bool false, .slice a' l2 c'] 47)).alloc (.cells #[.bool false, .slice none 0 0] 47)) = W0 at *
 have hz0 := HX3.out.lt
 have c0 := HX1.out.cell 0 rfl
 have c1 := HX1.out.cell 1 rfl
 have d0 := HX2.out.cell 0 rfl
 have d1 := HX2.out.cell 1 rfl
 go_quiet (fail)
 go_upto_region 3 with fail
 generalize hW1 : W0.drewN _ = W1
 have HY1 := hid (show BoxN W1 (w.heap.size) _ _ by rw [← hW1]; exact HX1.out)
 have HY2 := hid (show BoxN W1 (w.heap.size + 1) _ _ by rw [← hW1]; exact HX2.out)
 have HY3 := hid (show BoxN W1 (w.heap.size + 2) _ _ by rw [← hW1]; exact HX3.out)
 have HC0 := hid (show Below w.heap.size w W1 by rw [← hW1]; have h1 := HB0.out; repeat' (first | (with_reducible exact Below.refl _ _) | (with_reducible assumption) | (with_reducible refine below_drewN ?_) | (with_reducible refine Below.alloc ?_ ?_ _) | (with_reducible refine Below.drew ?_) | (with_reducible refine Below.setCell ?_ ?_ _) | (with_reducible refine Below.trans ?_ (Below.mono (by with_reducible assumption) ?_)) | go_size))
 have hz1 := HY3.out.lt
 clear hW1 HX1 HX2 HX3 HB0 hz0 c0 c1 d0 d1
 have HG := hid (fun W (hW : Below W1.heap.size W1 W) => (⟨(HY1.out.below hW HY1.out.lt).cell 0 rfl, (HY1.out.below hW HY1.out.lt).cell 1 rfl, (HY2.out.below hW HY2.out.lt).cell 0 rfl, (HY2.out.below hW HY2.out.lt).cell 1 rfl⟩ : W.cell? ⟨w.heap.size, 0, none⟩ = some (.bool false) ∧ W.cell? ⟨w.heap.size, 1, none⟩ = some (.slice a l1 c) ∧ W.cell? ⟨w.heap.size + 1, 0, none⟩ = some (.bool false) ∧ W.cell? ⟨w.heap.size + 1, 1, none⟩ = some (.slice a' l2 c')))
 have HG2 := hid (fun W (hW : Below W1.heap.size W1 W) (x y : Value) => (⟨(((HY1.out.below hW HY1.out.lt).other (p := ⟨w.heap.size + 2, 0, none⟩) (by show w.heap.size + 2 ≠ w.heap.size; omega) x).other (p := ⟨w.heap.size + 2, 1, none⟩) (by show w.heap.size + 2 ≠ w.heap.size; omega) y).cell 0 rfl, (((HY1.out.below hW HY1.out.lt).other (p := ⟨w.heap.size + 2, 0, none⟩) (by show w.heap.size + 2 ≠ w.heap.size; omega) x).other (p := ⟨w.heap.size + 2, 1, none⟩) (by show w.heap.size + 2 ≠ w.heap.size; omega) y).cell 1 rfl, (((HY2.out.below hW HY2.out.lt).other (p := ⟨w.heap.size + 2, 0, none⟩) (by show w.heap.size + 2 ≠ w.heap.size + 1; omega) x).other (p := ⟨w.heap.size + 2, 1, none⟩) (by show w.heap.size + 2 ≠ w.heap.size + 1; omega) y).cell 0 rfl, (((HY2.out.below hW HY2.out.lt).other (p := ⟨w.heap.size + 2, 0, none⟩) (by show w.heap.size + 2 ≠ w.heap.size + 1; omega) x).other (p := ⟨w.heap.size + 2, 1, none⟩) (by show w.heap.size + 2 ≠ w.heap.size + 1; omega) y).cell 1 rfl⟩ : ((W.setCell ⟨w.heap.size + 2, 0, none⟩ x).setCell ⟨w.heap.size + 2, 1, none⟩ y).cell? ⟨w.heap.size, 0, none⟩ = some (.bool false) ∧ ((W.setCell ⟨w.heap.size + 2, 0, none⟩ x).setCell ⟨w.heap.size + 2, 1, none⟩ y).cell? ⟨w.heap.size, 1, none⟩ = some (.slice a l1 c) ∧ ((W.setCell ⟨w.heap.size + 2, 0, none⟩ x).setCell ⟨w.heap.size + 2, 1, none⟩ y).cell? ⟨w.heap.size + 1, 0, none⟩ = some (.bool false) ∧ ((W.setCell ⟨w.heap.size + 2, 0, none⟩ x).setCell ⟨w.heap.size + 2, 1, none⟩ y).cell? ⟨w.heap.size + 1, 1, none⟩ = some (.slice a' l2 c')))
 have HC := hid (show Below W1.heap.size W1 W1.drew by have h1 := Below.refl W1.heap.size W1; repeat' (first | (with_reducible exact Below.refl _ _) | (with_reducible assumption) | (with_reducible refine below_drewN ?_) | (with_reducible refine Below.alloc ?_ ?_ _) | (with_reducible refine Below.drew ?_) | (with_reducible refine Below.setCell ?_ ?_ _) | (with_reducible refine Below.trans ?_ (Below.mono (by with_reducible assumption) ?_)) | go_size))
 go_region_held3 (fun w' => w'.cell? ⟨w.heap.size, 0, none⟩ = some (.bool false) ∧ w'.cell? ⟨w.heap.size, 1, none⟩ = some (.slice a l1 c) ∧ w'.cell? ⟨w.heap.size + 1, 0, none⟩ = some (.bool false) ∧ w'.cell? ⟨w.heap.size + 1, 1, none⟩ = some (.slice a' l2 c'))
  (first | exact HG.out _ HC.out | exact HG2.out _ HC.out _ _ | go_keep)
  (first
   | (go_at_call 181; go_must (((with_reducible refine (HTI.out _ (HC0.out.trans (HC.out.mono HC0.out.size))).mono ?_); rintro e w5 ⟨a5, c5, rfl, hr5, ho5, hb5⟩; have HC := hid (HC.out.trans (hb5.mono HC.out.size)); have HS5 := hid HC.out.size; have HR5 := hid hr5; clear hr5 ho5 hb5)))
   | (go_at_call 180; go_must (((with_reducible refine (HSG.out _ _ HR5.out).mono ?_); rintro e w6 ⟨a6, c6, rfl, hr6, ho6, hb6⟩; have HC := hid (HC.out.trans (hb6.mono HC.out.size)); have HR6 := hid hr6; have HO6 := hid ho6; have hx6 := HY3.out.below HC.out hz1; have q0 := hx6.cell 0 rfl; have q1 := hx6.cell 1 rfl; have f0 := hx6.frozen 0; have f1 := hx6.frozen 1; clear hr6 ho6 hb6 hx6))))
 all_goals
  have hs5 := HS5.out
  go_wp2
  refine bodyPost_ret (by simp [results, Tryz.results127, go_sem, q0, q1]; rfl) rfl ?_
  exact ⟨a6, c6, rfl, ((HC0.out.trans (HC.out.mono HC0.out.size)).setCell (by show w.heap.size ≤ w.heap.size + 2; omega) _).setCell (by show w.heap.size ≤ w.heap.size + 2; omega) _⟩
set_option maxRecDepth 100000 in
set_option maxHeartbeats 2000000 in
theorem frac_sum1 (u v : Value) (X Y : Nat) (w : World) (hu : RdB w u false (dig X)) (hv : RdB w v (decide (0 < Y)) (dig Y)) (hlm : (dig X).length ≤ 1048576) (hln : (dig Y).length ≤ 1048576) (hlp : (dig (X - Y)).length ≤ 1073741824) (h : 0 < Y ∧ Y ≤ X) :
  Calls Tryz.prog 127 #[u, v] w (fun e w' => ∃ a c, e = .returned (.agg #[.bool (false && decide (0 < X - Y)), .slice a (dig (X - Y)).length c]) ∧ Below w.heap.size w w') := by
 rw [show decide (0 < Y) = true from by simp; omega] at hv
 obtain ⟨a, c, rfl, hu⟩ := hu
 obtain ⟨a', c', rfl, hv⟩ := hv
 have HTI := hid (fun W (hW : Below w.heap.size w W) => frac_minus _ _ (dig X) (dig Y) W (hu.kept hW) (hv.kept hW) (by omega) (by rw [val_dig, val_dig]; omega) (dig_length_mono (by omega)))
 rw [val_dig, val_dig] at HTI
 have HSG := hid (fun W s (hs : Rd32 W s (dig (X - Y))) => frac_signed false s (X - Y) W hs hlp)
 have HCM := hid (fun W (hW : Below w.heap.size w W) => frac_compare (.slice a (dig X).length c) (.slice a' (dig Y).length c') (dig X) (dig Y) W (hu.kept hW) (hv.kept hW))
 rw [cmpL_dig] at HCM
 clear hu hv
 generalize (dig X).length = l1 at *
 generalize (dig Y).length = l2 at *
 have hsg : decide ((0 : Int) ≤ sgn X Y) = true := decide_eq_true (sgn_nonneg.2 h.2)
 generalize sgn X Y = sg at *
 obtain ⟨p, hp⟩ : ∃ p, p = X - Y := ⟨_, rfl⟩
 rw [← hp] at HTI HSG hlp ⊢
 clear hp
 have hx1 := ((BoxN.new w #[.bool false, .slice a l1 c] 47).alloc (.cells #[.bool true, .slice a' l2 c'] 47)).alloc (.cells #[.bool false, .slice none 0 0] 47)
 have HX1 := hid hx1
 have hx2 := (BoxN.new (w.alloc (.cells #[.bool false, .slice a l1 c] 47)) #[.bool true, .slice a' l2 c'] 47).alloc (.cells #[.bool false, .slice none 0 0] 47)
 rw [World.size_alloc] at hx2
 have HX2 := hid hx2
 have hx3 := BoxN.new ((w.alloc (.cells #[.bool false, .slice a l1 c] 47)).alloc (.cells #[.bool true, .slice a' l2 c'] 47)) #[.bool false, .slice none 0 0] 47
 rw [World.size_alloc, World.size_alloc] at hx3
 have HX3 := hid hx3
 have HB0 := hid ((((Below.refl w.heap.size w).alloc (Nat.le_refl _) (.cells #[.bool false, .slice a l1 c] 47)).alloc (by simp) (.cells #[.bool true, .slice a' l2 c'] 47)).alloc (by simp; omega) (.cells #[.bool false, .slice none 0 0] 47))
 clear hx1 hx2 hx3
 go_enter Tryz.func127, Tryz.ntmps127
 go_upto_region 1 with fail
 generalize (((w.alloc (.cells #[.bool false, .slice a l1 c] 47)).alloc (.cells #[.bool true, .slice a' l2 c'] 47)).alloc (.cells #[.bool false, .slice none 0 0] 47)) = W0 at *
 have hz0 := HX3.out.lt
 have c0 := HX1.out.cell 0 rfl
 have c1 := HX1.out.cell 1 rfl
 have d0 := HX2.out.cell 0 rfl
 have d1 := HX2.out.cell 1 rfl
 go_quiet (fail)
 go_upto_region 4 with fail
 go_wp2_with fail
 with_reducible refine (HCM.out _ (by have h1 := HB0.out; repeat' (first | (with_reducible exact Below.refl _ _) | (with_reducible assumption) | (with_reducible refine below_drewN ?_) | (with_reducible refine Below.alloc ?_ ?_ _) | (with_reducible refine Below.drew ?_) | (with_reducible refine Below.setCell ?_ ?_ _) | (with_reducible refine Below.trans ?_ (Below.mono (by with_reducible assumption) ?_)) | go_size))).mono ?_
 rintro e w4 ⟨rfl, k4, rfl⟩
 go_upto_region 5 with fail
 generalize hW1 : W0.drewN _ = W1
 have HY1 := hid (show BoxN W1 (w.heap.size) _ _ by rw [← hW1]; exact HX1.out)
 have HY2 := hid (show BoxN W1 (w.heap.size + 1) _ _ by rw [← hW1]; exact HX2.out)
 have HY3 := hid (show BoxN W1 (w.heap.size + 2) _ _ by rw [← hW1]; exact HX3.out)
 have HC0 := hid (show Below w.heap.size w W1 by rw [← hW1]; have h1 := HB0.out; repeat' (first | (with_reducible exact Below.refl _ _) | (with_reducible assumption) | (with_reducible refine below_drewN ?_) | (with_reducible refine Below.alloc ?_ ?_ _) | (with_reducible refine Below.drew ?_) | (with_reducible refine Below.setCell ?_ ?_ _) | (with_reducible refine Below.trans ?_ (Below.mono (by with_reducible assumption) ?_)) | go_size))
 have hz1 := HY3.out.lt
 clear hW1 HX1 HX2 HX3 HB0 hz0 c0 c1 d0 d1
 have HG := hid (fun W (hW : Below W1.heap.size W1 W) => (⟨(HY1.out.below hW HY1.out.lt).cell 0 rfl, (HY1.out.below hW HY1.out.lt).cell 1 rfl, (HY2.out.below hW HY2.out.lt).cell 0 rfl, (HY2.out.below hW HY2.out.lt).cell 1 rfl⟩ : W.cell? ⟨w.heap.size, 0, none⟩ = some (.bool false) ∧ W.cell? ⟨w.heap.size, 1, none⟩ = some (.slice a l1 c) ∧ W.cell? ⟨w.heap.size + 1, 0, none⟩ = some (.bool true) ∧ W.cell? ⟨w.heap.size + 1, 1, none⟩ = some (.slice a' l2 c')))
 have HG2 := hid (fun W (hW : Below W1.heap.size W1 W) (x y : Value) => (⟨(((HY1.out.below hW HY1.out.lt).other (p := ⟨w.heap.size + 2, 0, none⟩) (by show w.heap.size + 2 ≠ w.heap.size; omega) x).other (p := ⟨w.heap.size + 2, 1, none⟩) (by show w.heap.size + 2 ≠ w.heap.size; omega) y).cell 0 rfl, (((HY1.out.below hW HY1.out.lt).other (p := ⟨w.heap.size + 2, 0, none⟩) (by show w.heap.size + 2 ≠ w.heap.size; omega) x).other (p := ⟨w.heap.size + 2, 1, none⟩) (by show w.heap.size + 2 ≠ w.heap.size; omega) y).cell 1 rfl, (((HY2.out.below hW HY2.out.lt).other (p := ⟨w.heap.size + 2, 0, none⟩) (by show w.heap.size + 2 ≠ w.heap.size + 1; omega) x).other (p := ⟨w.heap.size + 2, 1, none⟩) (by show w.heap.size + 2 ≠ w.heap.size + 1; omega) y).cell 0 rfl, (((HY2.out.below hW HY2.out.lt).other (p := ⟨w.heap.size + 2, 0, none⟩) (by show w.heap.size + 2 ≠ w.heap.size + 1; omega) x).other (p := ⟨w.heap.size + 2, 1, none⟩) (by show w.heap.size + 2 ≠ w.heap.size + 1; omega) y).cell 1 rfl⟩ : ((W.setCell ⟨w.heap.size + 2, 0, none⟩ x).setCell ⟨w.heap.size + 2, 1, none⟩ y).cell? ⟨w.heap.size, 0, none⟩ = some (.bool false) ∧ ((W.setCell ⟨w.heap.size + 2, 0, none⟩ x).setCell ⟨w.heap.size + 2, 1, none⟩ y).cell? ⟨w.heap.size, 1, none⟩ = some (.slice a l1 c) ∧ ((W.setCell ⟨w.heap.size + 2, 0, none⟩ x).setCell ⟨w.heap.size + 2, 1, none⟩ y).cell? ⟨w.heap.size + 1, 0, none⟩ = some (.bool true) ∧ ((W.setCell ⟨w.heap.size + 2, 0, none⟩ x).setCell ⟨w.heap.size + 2, 1, none⟩ y).cell? ⟨w.heap.size + 1, 1, none⟩ = some (.slice a' l2 c')))
 have HC := hid (show Below W1.heap.size W1 W1.drew by have h1 := Below.refl W1.heap.size W1; repeat' (first | (with_reducible exact Below.refl _ _) | (with_reducible assumption) | (with_reducible refine below_drewN ?_) | (with_reducible refine Below.alloc ?_ ?_ _) | (with_reducible refine Below.drew ?_) | (with_reducible refine Below.setCell ?_ ?_ _) | (with_reducible refine Below.trans ?_ (Below.mono (by with_reducible assumption) ?_)) | go_size))
 go_region_held3 (fun w' => w'.cell? ⟨w.heap.size, 0, none⟩ = some (.bool false) ∧ w'.cell? ⟨w.heap.size, 1, none⟩ = some (.slice a l1 c) ∧ w'.cell? ⟨w.heap.size + 1, 0, none⟩ = some (.bool true) ∧ w'.cell? ⟨w.heap.size + 1, 1, none⟩ = some (.slice a' l2 c'))
  (first | exact HG.out _ HC.out | exact HG2.out _ HC.out _ _ | go_keep)
  (first
   | (go_at_call 182; go_must (((with_reducible refine (HTI.out _ (HC0.out.trans (HC.out.mono HC0.out.size))).mono ?_); rintro e w5 ⟨a5, c5, rfl, hr5, ho5, hb5⟩; have HC := hid (HC.out.trans (hb5.mono HC.out.size)); have HS5 := hid HC.out.size; have HR5 := hid hr5; clear hr5 ho5 hb5)))
   | (go_at_call 180; go_must (((with_reducible refine (HSG.out _ _ HR5.out).mono ?_); rintro e w6 ⟨a6, c6, rfl, hr6, ho6, hb6⟩; have HC := hid (HC.out.trans (hb6.mono HC.out.size)); have HR6 := hid hr6; have HO6 := hid ho6; have hx6 := HY3.out.below HC.out hz1; have q0 := hx6.cell 0 rfl; have q1 := hx6.cell 1 rfl; have f0 := hx6.frozen 0; have f1 := hx6.frozen 1; clear hr6 ho6 hb6 hx6))))
 all_goals
  have hs5 := HS5.out
  go_wp2
  refine bodyPost_ret (by simp [results, Tryz.results127, go_sem, q0, q1]; rfl) rfl ?_
  exact ⟨a6, c6, rfl, ((HC0.out.trans (HC.out.mono HC0.out.size)).setCell (by show w.heap.size ≤ w.heap.size + 2; omega) _).setCell (by show w.heap.size ≤ w.heap.size + 2; omega) _⟩
set_option maxRecDepth 100000 in
set_option maxHeartbeats 2000000 in
theorem frac_sum2 (u v : Value) (X Y : Nat) (w : World) (hu : RdB w u false (dig X)) (hv : RdB w v (decide (0 < Y)) (dig Y)) (hlm : (dig X).length ≤ 1048576) (hln : (dig Y).length ≤ 1048576) (hlp : (dig (Y - X)).length ≤ 1073741824) (h : X < Y) :
  Calls Tryz.prog 127 #[u, v] w (fun e w' => ∃ a c, e = .returned (.agg #[.bool (true && decide (0 < Y - X)), .slice a (dig (Y - X)).length c]) ∧ Below w.heap.size w w') := by
 rw [show decide (0 < Y) = true from by simp; omega] at hv
 obtain ⟨a, c, rfl, hu⟩ := hu
 obtain ⟨a', c', rfl, hv⟩ := hv
 have HTI := hid (fun W (hW : Below w.heap.size w W) => frac_minus _ _ (dig Y) (dig X) W (hv.kept hW) (hu.kept hW) (by omega) (by rw [val_dig, val_dig]; omega) (dig_length_mono (by omega)))
 rw [val_dig, val_dig] at HTI
 have HSG := hid (fun W s (hs : Rd32 W s (dig (Y - X))) => frac_signed true s (Y - X) W hs hlp)
 have HCM := hid (fun W (hW : Below w.heap.size w W) => frac_compare (.slice a (dig X).length c) (.slice a' (dig Y).length c') (dig X) (dig Y) W (hu.kept hW) (hv.kept hW))
 rw [cmpL_dig] at HCM
 clear hu hv
 generalize (dig X).length = l1 at *
 generalize (dig Y).length = l2 at *
 have hsg : decide ((0 : Int) ≤ sgn X Y) = false := by rw [sgn_lt h]; rfl
 generalize sgn X Y = sg at *
 obtain ⟨p, hp⟩ : ∃ p, p = Y - X := ⟨_, rfl⟩
 rw [← hp] at HTI HSG hlp ⊢
 clear hp
 have hx1 := ((BoxN.new w #[.bool false, .slice a l1 c] 47).alloc (.cells #[.bool true, .slice a' l2 c'] 47)).alloc (.cells #[.bool false, .slice none 0 0] 47)
 have HX1 := hid hx1
 have hx2 := (BoxN.new (w.alloc (.cells #[.bool false, .slice a l1 c] 47)) #[.bool true, .slice a' l2 c'] 47).alloc (.cells #[.bool false, .slice none 0 0] 47)
 rw [World.size_alloc] at hx2
 have HX2 := hid hx2
 have hx3 := BoxN.new ((w.alloc (.cells #[.bool false, .slice a l1 c] 47)).alloc (.cells #[.bool true, .slice a' l2 c'] 47)) #[.bool false, .slice none 0 0] 47
 rw [World.size_alloc, World.size_alloc] at hx3
 have HX3 := hid hx3
 have HB0 := hid ((((Below.refl w.heap.size w).alloc (Nat.le_refl _) (.cells #[.bool false, .slice a l1 c] 47)).alloc (by simp) (.cells #[.bool true, .slice a' l2 c'] 47)).alloc (by simp; omega) (.cells #[.bool false, .slice none 0 0] 47))
 clear hx1 hx2 hx3
 go_enter Tryz.func127, Tryz.ntmps127
 go_upto_region 1 with fail
 generalize (((w.alloc (.cells #[.bool false, .slice a l1 c] 47)).alloc (.cells #[.bool true, .slice a' l2 c'] 47)).alloc (.cells #[.bool false, .slice none 0 0] 47)) = W0 at *
 have hz0 := HX3.out.lt
 have c0 := HX1.out.cell 0 rfl
 have c1 := HX1.out.cell 1 rfl
 have d0 := HX2.out.cell 0 rfl
 have d1 := HX2.out.cell 1 rfl
 go_quiet (fail)
 go_upto_region 4 with fail
 go_wp2_with fail
 with_reducible refine (HCM.out _ (by have h1 := HB0.out; repeat' (first | (with_reducible exact Below.refl _ _) | (with_reducible assumption) | (with_reducible refine below_drewN ?_) | (with_reducible refine Below.alloc ?_ ?_ _) | (with_reducible refine Below.drew ?_) | (with_reducible refine Below.setCell ?_ ?_ _) | (with_reducible refine Below.trans ?_ (Below.mono (by with_reducible assumption) ?_)) | go_size))).mono ?_
 rintro e w4 ⟨rfl, k4, rfl⟩
 go_upto_region 6 with fail
 generalize hW1 : W0.drewN _ = W1
 have HY1 := hid (show BoxN W1 (w.heap.size) _ _ by rw [← hW1]; exact HX1.out)
 have HY2 := hid (show BoxN W1 (w.heap.size + 1) _ _ by rw [← hW1]; exact HX2.out)
 have HY3 := hid (show BoxN W1 (w.heap.size + 2) _ _ by rw [← hW1]; exact HX3.out)
 have HC0 := hid (show Below w.heap.size w W1 by rw [← hW1]; have h1 := HB0.out; repeat' (first | (with_reducible exact Below.refl _ _) | (with_reducible assumption) | (with_reducible refine below_drewN ?_) | (with_reducible refine Below.alloc ?_ ?_ _) | (with_reducible refine Below.drew ?_) | (with_reducible refine Below.setCell ?_ ?_ _) | (with_reducible refine Below.trans ?_ (Below.mono (by with_reducible assumption) ?_)) | go_size))
 have hz1 := HY3.out.lt
 clear hW1 HX1 HX2 HX3 HB0 hz0 c0 c1 d0 d1
 have HG := hid (fun W (hW : Below W1.heap.size W1 W) => (⟨(HY1.out.below hW HY1.out.lt).cell 0 rfl, (HY1.out.below hW HY1.out.lt).cell 1 rfl, (HY2.out.below hW HY2.out.lt).cell 0 rfl, (HY2.out.below hW HY2.out.lt).cell 1 rfl⟩ : W.cell? ⟨w.heap.size, 0, none⟩ = some (.bool false) ∧ W.cell? ⟨w.heap.size, 1, none⟩ = some (.slice a l1 c) ∧ W.cell? ⟨w.heap.size + 1, 0, none⟩ = some (.bool true) ∧ W.cell? ⟨w.heap.size + 1, 1, none⟩ = some (.slice a' l2 c')))
 have HG2 := hid (fun W (hW : Below W1.heap.size W1 W) (x y : Value) => (⟨(((HY1.out.below hW HY1.out.lt).other (p := ⟨w.heap.size + 2, 0, none⟩) (by show w.heap.size + 2 ≠ w.heap.size; omega) x).other (p := ⟨w.heap.size + 2, 1, none⟩) (by show w.heap.size + 2 ≠ w.heap.size; omega) y).cell 0 rfl, (((HY1.out.below hW HY1.out.lt).other (p := ⟨w.heap.size + 2, 0, none⟩) (by show w.heap.size + 2 ≠ w.heap.size; omega) x).other (p := ⟨w.heap.size + 2, 1, none⟩) (by show w.heap.size + 2 ≠ w.heap.size; omega) y).cell 1 rfl, (((HY2.out.below hW HY2.out.lt).other (p := ⟨w.heap.size + 2, 0, none⟩) (by show w.heap.size + 2 ≠ w.heap.size + 1; omega) x).other (p := ⟨w.heap.size + 2, 1, none⟩) (by show w.heap.size + 2 ≠ w.heap.size + 1; omega) y).cell 0 rfl, (((HY2.out.below hW HY2.out.lt).other (p := ⟨w.heap.size + 2, 0, none⟩) (by show w.heap.size + 2 ≠ w.heap.size + 1; omega) x).other (p := ⟨w.heap.size + 2, 1, none⟩) (by show w.heap.size + 2 ≠ w.heap.size + 1; omega) y).cell 1 rfl⟩ : ((W.setCell ⟨w.heap.size + 2, 0, none⟩ x).setCell ⟨w.heap.size + 2, 1, none⟩ y).cell? ⟨w.heap.size, 0, none⟩ = some (.bool false) ∧ ((W.setCell ⟨w.heap.size + 2, 0, none⟩ x).setCell ⟨w.heap.size + 2, 1, none⟩ y).cell? ⟨w.heap.size, 1, none⟩ = some (.slice a l1 c) ∧ ((W.setCell ⟨w.heap.size + 2, 0, none⟩ x).setCell ⟨w.heap.size + 2, 1, none⟩ y).cell? ⟨w.heap.size + 1, 0, none⟩ = some (.bool true) ∧ ((W.setCell ⟨w.heap.size + 2, 0, none⟩ x).setCell ⟨w.heap.size + 2, 1, none⟩ y).cell? ⟨w.heap.size + 1, 1, none⟩ = some (.slice a' l2 c')))
 have HC := hid (show Below W1.heap.size W1 W1.drew by have h1 := Below.refl W1.heap.size W1; repeat' (first | (with_reducible exact Below.refl _ _) | (with_reducible assumption) | (with_reducible refine below_drewN ?_) | (with_reducible refine Below.alloc ?_ ?_ _) | (with_reducible refine Below.drew ?_) | (with_reducible refine Below.setCell ?_ ?_ _) | (with_reducible refine Below.trans ?_ (Below.mono (by with_reducible assumption) ?_)) | go_size))
 go_region_held3 (fun w' => w'.cell? ⟨w.heap.size, 0, none⟩ = some (.bool false) ∧ w'.cell? ⟨w.heap.size, 1, none⟩ = some (.slice a l1 c) ∧ w'.cell? ⟨w.heap.size + 1, 0, none⟩ = some (.bool true) ∧ w'.cell? ⟨w.heap.size + 1, 1, none⟩ = some (.slice a' l2 c'))
  (first | exact HG.out _ HC.out | exact HG2.out _ HC.out _ _ | go_keep)
  (first
   | (go_at_call 182; go_must (((with_reducible refine (HTI.out _ (HC0.out.trans (HC.out.mono HC0.out.size))).mono ?_); rintro e w5 ⟨a5, c5, rfl, hr5, ho5, hb5⟩; have HC := hid (HC.out.trans (hb5.mono HC.out.size)); have HS5 := hid HC.out.size; have HR5 := hid hr5; clear hr5 ho5 hb5)))
   | (go_at_call 180; go_must (((with_reducible refine (HSG.out _ _ HR5.out).mono ?_); rintro e w6 ⟨a6, c6, rfl, hr6, ho6, hb6⟩; have HC := hid (HC.out.trans (hb6.mono HC.out.size)); have HR6 := hid hr6; have HO6 := hid ho6; have hx6 := HY3.out.below HC.out hz1; have q0 := hx6.cell 0 rfl; have q1 := hx6.cell 1 rfl; have f0 := hx6.frozen 0; have f1 := hx6.frozen 1; clear hr6 ho6 hb6 hx6))))
 all_goals
  have hs5 := HS5.out
  go_wp2
  refine bodyPost_ret (by simp [results, Tryz.results127, go_sem, q0, q1]; rfl) rfl ?_
  exact ⟨a6, c6, rfl, ((HC0.out.trans (HC.out.mono HC0.out.size)).setCell (by show w.heap.size ≤ w.heap.size + 2; omega) _).setCell (by show w.heap.size ≤ w.heap.size + 2; omega) _⟩
theorem frac_sum (u v : Value) (X Y : Nat) (w : World) (hu : RdB w u false (dig X)) (hv : RdB w v (decide (0 < Y)) (dig Y)) (hX : X < 18446744073709551616) (hY : Y < 18446744073709551616) :
  Calls Tryz.prog 127 #[u, v] w (fun e w' => ∃ a c D, e = .returned (.agg #[.bool (decide (X < Y)), .slice a (dig D).length c]) ∧ (0 < D ↔ X ≠ Y) ∧ Below w.heap.size w w') := by
 have hl : ∀ n, n ≤ X + Y → (dig n).length ≤ 1048576 := fun n hn => Nat.le_trans (dig_length_le (k := 3) (by omega)) (by omega)
 by_cases h0 : Y = 0
 ·refine (frac_sum0 u v X Y w hu hv (hl _ (by omega)) (hl _ (by omega)) (Nat.le_trans (hl _ (by omega)) (by omega)) h0).mono ?_
  rintro e w' ⟨a, c, rfl, hb⟩
  exact ⟨a, c, _, by rw [show decide (X < Y) = false from decide_eq_false (by omega)]; rfl, by omega, hb⟩
 ·by_cases h1 : X < Y
  ·refine (frac_sum2 u v X Y w hu hv (hl _ (by omega)) (hl _ (by omega)) (Nat.le_trans (hl _ (by omega)) (by omega)) h1).mono ?_
   rintro e w' ⟨a, c, rfl, hb⟩
   exact ⟨a, c, _, by rw [show decide (X < Y) = true from decide_eq_true h1, show decide (0 < Y - X) = true from decide_eq_true (by omega)]; rfl, by omega, hb⟩
  ·refine (frac_sum1 u v X Y w hu hv (hl _ (by omega)) (hl _ (by omega)) (Nat.le_trans (hl _ (by omega)) (by omega)) ⟨by omega, by omega⟩).mono ?_
   rintro e w' ⟨a, c, rfl, hb⟩
   exact ⟨a, c, _, by rw [show decide (X < Y) = false from decide_eq_false h1]; rfl, by omega, hb⟩
end Go.Proofs.YthblaeleogdfpaaGreatDoor.Fr
