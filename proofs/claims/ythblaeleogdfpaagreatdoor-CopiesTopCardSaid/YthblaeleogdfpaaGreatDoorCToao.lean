/- Contracts of the reference: Times, Minus, Whole, Valid. Contract of the reference's comparison of fractions. -/
import Derived.Test.YthblaeleogdfpaaGreatDoorCToan
import Derived.Test.YthblaeleogdfpaaGreatDoorCToal
set_option linter.unusedVariables false
set_option linter.unusedSimpArgs false
namespace Go.Proofs.YthblaeleogdfpaaGreatDoor.Fr
open Go.RowKit
theorem rsign (x : Int) : x = if decide (x < 0) then -(x.natAbs : Int) else (x.natAbs : Int) := by
 by_cases h : x < 0
 ·simp only [h, decide_true, if_true]; omega
 ·simp only [h, decide_false, Bool.false_eq_true, if_false]; omega
set_option maxRecDepth 100000 in
set_option maxHeartbeats 2000000 in
theorem ref_Times (u v : Value) (x y : Int) (w : World) (hx : RdZ w u x) (hy : RdZ w v y) (hlx : (dig x.natAbs).length ≤ 1073741824) (hly : (dig y.natAbs).length ≤ 1073741824) :
  Calls Tryz.prog 194 #[u, v] w (GivesI [] w (x * y)) := by
 obtain ⟨a, c, rfl, hx⟩ := hx
 obtain ⟨a', c', rfl, hy⟩ := hy
 have HX := hid hx
 have HY := hid hy
 have HLX := hid hlx
 have HLY := hid hly
 have hs1 : x * y = if (decide (x < 0)) != (decide (y < 0)) then -((x.natAbs * y.natAbs : Nat) : Int) else ((x.natAbs * y.natAbs : Nat) : Int) := by
  have h1 := rsign x
  have h2 := rsign y
  generalize x.natAbs = p at *
  generalize y.natAbs = q at *
  generalize decide (x < 0) = s at *
  generalize decide (y < 0) = t at *
  subst h1; subst h2
  cases s <;> cases t <;> simp [Int.neg_mul, Int.mul_neg]
 have HS := hid hs1
 clear hx hy hlx hly hs1
 generalize hn : (dig x.natAbs).length = n at *
 generalize hn' : (dig y.natAbs).length = n' at *
 have HN := hid hn
 have HN' := hid hn'
 clear hn hn'
 generalize decide (x < 0) = s at *
 generalize decide (y < 0) = t at *
 have hst : ∀ W : World, (binOp .neq 4 (.bool s) (.bool t)).run Tryz.prog W = .ok (.bool (s != t)) W := fun W => by cases s <;> cases t <;> kernel_rfl
 generalize (s != t) = st at *
 go_enter Tryz.func194, Tryz.ntmps194
 go_wp2
 go_region_held3 (fun w' => w'.cell? ⟨w.heap.size, 0, none⟩ = some (.bool s) ∧ w'.cell? ⟨w.heap.size, 1, none⟩ = some (.slice a n c) ∧ w'.cell? ⟨w.heap.size + 1, 0, none⟩ = some (.bool t) ∧ w'.cell? ⟨w.heap.size + 1, 1, none⟩ = some (.slice a' n' c')) (first | exact ⟨k0, k1, k2, k3⟩ | exact ⟨j0, j1, j2, j3⟩ | (refine ⟨?_, ?_, ?_, ?_⟩ <;> (rw [World.cell?_setCell_other _ _ _ _ (by intro h; injection h with h; omega), World.cell?_setCell_other _ _ _ _ (by intro h; injection h with h; omega)]; assumption)) | go_keep)
  (first
   | (go_at_call 249; go_must ((refine (ref_mul _ _ _ _ _ (HX.out.kept (by repeat' (first | (with_reducible exact Below.refl _ _) | (with_reducible assumption) | (with_reducible refine below_drewN ?_) | (with_reducible refine Below.alloc ?_ ?_ _) | (with_reducible refine Below.drew ?_) | (with_reducible refine Below.setCell ?_ ?_ _) | (with_reducible refine Below.trans ?_ (Below.mono (by with_reducible assumption) ?_)) | go_size))) (HY.out.kept (by repeat' (first | (with_reducible exact Below.refl _ _) | (with_reducible assumption) | (with_reducible refine below_drewN ?_) | (with_reducible refine Below.alloc ?_ ?_ _) | (with_reducible refine Below.drew ?_) | (with_reducible refine Below.setCell ?_ ?_ _) | (with_reducible refine Below.trans ?_ (Below.mono (by with_reducible assumption) ?_)) | go_size))) (by rw [HN.out]; exact HLX.out) (by rw [HN'.out]; exact HLY.out)).mono ?_; rintro e w1 ⟨ra, rc, rfl, hr1, hr2, hr4⟩; rw [val_dig, val_dig] at hr1 hr2; rw [val_dig, val_dig]; have hr3 := val_dig (x.natAbs * y.natAbs); have HR1 := hid hr1; have HR2 := hid hr2; have HR3 := hid hr3; have HR4 := hid hr4; have hz1 := hr4.size; clear hr1 hr2 hr3 hr4; simp at hz1; have k0 := cell_later HR4.out (a := ⟨w.heap.size, 0, none⟩) (v := .bool s) (by go_cell); have k1 := cell_later HR4.out (a := ⟨w.heap.size, 1, none⟩) (v := .slice a n c) (by go_cell); have k2 := cell_later HR4.out (a := ⟨w.heap.size + 1, 0, none⟩) (v := .bool t) (by go_cell); have k3 := cell_later HR4.out (a := ⟨w.heap.size + 1, 1, none⟩) (v := .slice a' n' c') (by go_cell); have k8 := cell_later HR4.out (a := ⟨w.heap.size + 1 + 1, 0, none⟩) (v := .bool false) (by go_cell); have k9 := cell_later HR4.out (a := ⟨w.heap.size + 1 + 1, 1, none⟩) (v := .slice none 0 0) (by go_cell); have f8 := frozen_later HR4.out (a := ⟨w.heap.size + 1 + 1, 0, none⟩) (v := .bool false) (by go_cell) (by simp [go_sem]); have f9 := frozen_later HR4.out (a := ⟨w.heap.size + 1 + 1, 1, none⟩) (v := .slice none 0 0) (by go_cell) (by simp [go_sem]))))
   | (go_at_call 175; go_must ((refine (ref_big _ _ _ _ HR1.out).mono ?_; rintro e w2 ⟨ra2, rc2, rfl, hr1, hr2, hr4⟩; rw [HR3.out] at hr1 hr2; rw [HR3.out]; have HP1 := hid hr1; have HP2 := hid hr2; have HP4 := hid hr4; have hz2 := hr4.size; clear hr1 hr2 hr4; have j0 := cell_later HP4.out k0; have j1 := cell_later HP4.out k1; have j2 := cell_later HP4.out k2; have j3 := cell_later HP4.out k3; have j8 := cell_later HP4.out k8; have j9 := cell_later HP4.out k9; have g8 := frozen_later HP4.out k8 f8; have g9 := frozen_later HP4.out k9 f9))))
 go_wp2
 refine bodyPost_ret (by simp [results, Tryz.results194, go_sem, j8, j9]; rfl) rfl ?_
 have hof : Off (w.heap.size + 1 + 1) _ := HP2.out _ (by omega) (fun u hu => by simp at hu; subst hu; exact HR2.out _ (by simp))
 exact givesI_of (us := []) ⟨ra2, rc2, rfl, (HP1.out.setCell hof).setCell hof, fun R hR _ => HP2.out R (by omega) (fun u hu => by simp at hu; subst hu; exact HR2.out R (by simp; omega)), by have hb4 := HR4.out; have hb5 := HP4.out; repeat' (first | (with_reducible exact Below.refl _ _) | (with_reducible assumption) | (with_reducible refine below_drewN ?_) | (with_reducible refine Below.alloc ?_ ?_ _) | (with_reducible refine Below.drew ?_) | (with_reducible refine Below.setCell ?_ ?_ _) | (with_reducible refine Below.trans ?_ (Below.mono (by with_reducible assumption) ?_)) | go_size)⟩ HS.out
set_option maxRecDepth 100000 in
set_option maxHeartbeats 1000000 in
theorem ref_Minus (a : Option Addr) (c : Nat) (x : Int) (w : World) (hx : Rd32 w (.slice a (dig x.natAbs).length c) (dig x.natAbs)) :
  Calls Tryz.prog 195 #[.agg #[.bool (decide (x < 0)), .slice a (dig x.natAbs).length c]] w (GivesI [.slice a (dig x.natAbs).length c] w (-x)) := by
 have HX := hid hx
 have hs1 : -x = if !decide (x < 0) then -(x.natAbs : Int) else (x.natAbs : Int) := by
  have h1 := rsign x
  generalize x.natAbs = p at *
  generalize decide (x < 0) = s at *
  subst h1
  cases s <;> simp
 have HS := hid hs1
 have HBG := hid (fun s W (hb : Below w.heap.size w W) => ref_big s _ _ W (hx.kept hb))
 clear hx hs1
 have hvd := val_dig x.natAbs
 rw [hvd] at HBG
 clear hvd
 generalize (dig x.natAbs).length = n at *
 generalize decide (x < 0) = s at *
 go_enter Tryz.func195, Tryz.ntmps195
 go_wp2_with fail
 refine (HBG.out _ _ (by repeat' (first | (with_reducible exact Below.refl _ _) | (with_reducible assumption) | (with_reducible refine below_drewN ?_) | (with_reducible refine Below.alloc ?_ ?_ _) | (with_reducible refine Below.drew ?_) | (with_reducible refine Below.setCell ?_ ?_ _) | (with_reducible refine Below.trans ?_ (Below.mono (by with_reducible assumption) ?_)) | go_size))).mono ?_
 rintro e w1 ⟨a1, c1, rfl, hr1, ho1, hb1⟩
 have HR1 := hid hr1
 have HO1 := hid ho1
 have HB1 := hid hb1
 have hz1 := hb1.size
 have k0 := cell_later hb1 (a := ⟨w.heap.size, 0, none⟩) (v := .bool s) (by go_cell)
 have k1 := cell_later hb1 (a := ⟨w.heap.size, 1, none⟩) (v := .slice a n c) (by go_cell)
 have k2 := cell_later hb1 (a := ⟨w.heap.size + 1, 0, none⟩) (v := .bool false) (by go_cell)
 have k3 := cell_later hb1 (a := ⟨w.heap.size + 1, 1, none⟩) (v := .slice none 0 0) (by go_cell)
 have fk2 := frozen_later hb1 (a := ⟨w.heap.size + 1, 0, none⟩) (v := .bool false) (by go_cell) (by simp [go_sem])
 have fk3 := frozen_later hb1 (a := ⟨w.heap.size + 1, 1, none⟩) (v := .slice none 0 0) (by go_cell) (by simp [go_sem])
 clear hr1 ho1 hb1
 simp at hz1
 go_wp2
 refine bodyPost_ret (by simp [results, Tryz.results195, go_sem, k2, k3]; rfl) rfl ?_
 have hof : Off (w.heap.size + 1) _ := HO1.out _ (by simp) (fun u hu => by simp at hu; subst hu; exact HX.out.off (by omega))
 have hdx : decide (0 < x.natAbs) = !decide (x = 0) := by
  by_cases h : x = 0
  ·subst h; rfl
  ·simp [h]
 exact givesI_of ⟨a1, c1, by rw [hdx], (HR1.out.setCell hof).setCell hof, fun R hR hu => HO1.out R (by simp; omega) hu, by have h := HB1.out; repeat' (first | (with_reducible exact Below.refl _ _) | (with_reducible assumption) | (with_reducible refine below_drewN ?_) | (with_reducible refine Below.alloc ?_ ?_ _) | (with_reducible refine Below.drew ?_) | (with_reducible refine Below.setCell ?_ ?_ _) | (with_reducible refine Below.trans ?_ (Below.mono (by with_reducible assumption) ?_)) | go_size)⟩ HS.out
set_option maxRecDepth 100000 in
set_option maxHeartbeats 1000000 in
theorem ref_Valid (v : Value) (neg : Bool) (p q : Nat) (w : World) (hv : RdF w v neg p q) (hq : 0 < q) (hpq : Nat.gcd p q = 1) (hneg : p = 0 → neg = false) (hp2 : p < 4294967296 ^ 256) (hq2 : q < 4294967296 ^ 256) :
  Calls Tryz.prog 192 #[v] w (Ret w (.bool true)) := by
 obtain ⟨a, c, a', c', rfl, h1, h2⟩ := hv
 have HX := hid h1
 have HY := hid h2
 have hk1 := okBig_dig neg p hp2 hneg
 have hk2 := okBig_dig false q hq2 (fun _ => rfl)
 have hlp := dig_length_le hp2
 have hlq := dig_length_le hq2
 have hV1 := fun W (hb : Below w.heap.size w W) => ref_ValidBig (.agg #[.bool neg, .slice a (dig p).length c]) neg (dig p) W ⟨a, c, rfl, h1.kept hb⟩
 have hV2 := fun W (hb : Below w.heap.size w W) => ref_ValidBig (.agg #[.bool false, .slice a' (dig q).length c']) false (dig q) W ⟨a', c', rfl, h2.kept hb⟩
 rw [hk1] at hV1
 rw [hk2] at hV2
 have HV1 := hid hV1
 have HV2 := hid hV2
 have HP := @dig_length_pos p
 have hQ := dig_length_pos.2 hq
 have HC1 := hid (fun W v1 (hy : Rd32 W v1 (dig 1)) (hb : Below w.heap.size w W) => ref_cmp _ v1 _ _ W (h2.kept hb) hy)
 have HC2 := hid (fun W v2 v1 n (hx : Rd32 W v2 (dig n)) (hy : Rd32 W v1 (dig 1)) => ref_cmp v2 v1 _ _ W hx hy)
 have hd1 : dig 1 = [1] := dig_one_digit (by omega) (by omega)
 have HD1 := hid hd1
 by_cases hp : 0 < p
 ·have HG := hid (fun W (hb : Below w.heap.size w W) => ref_gcd _ _ p q W (h1.kept hb) (h2.kept hb) hp hq (by omega) (by omega))
  rw [hpq] at HG
  have hP := HP.2 hp
  clear h1 h2 hk1 hk2 hV1 hV2 hd1 hlp hlq HP hp2 hq2
  generalize (dig p).length = L at *
  generalize (dig q).length = L' at *
  have hne : ((L : Int) == 0) = false := by simp; omega
  have hne' : ((L' : Int) == 0) = false := by simp; omega
  go_enter Tryz.func192, Tryz.ntmps192
  go_wp2_with fail
  refine (HV1.out _ (by repeat' (first | (with_reducible exact Below.refl _ _) | (with_reducible assumption) | (with_reducible refine below_drewN ?_) | (with_reducible refine Below.alloc ?_ ?_ _) | (with_reducible refine Below.drew ?_) | (with_reducible refine Below.setCell ?_ ?_ _) | (with_reducible refine Below.trans ?_ (Below.mono (by with_reducible assumption) ?_)) | go_size))).mono ?_
  rintro e w1 ⟨rfl, hb1⟩
  have hA1 : Below w.heap.size w w1 := by repeat' (first | (with_reducible exact Below.refl _ _) | (with_reducible assumption) | (with_reducible refine below_drewN ?_) | (with_reducible refine Below.alloc ?_ ?_ _) | (with_reducible refine Below.drew ?_) | (with_reducible refine Below.setCell ?_ ?_ _) | (with_reducible refine Below.trans ?_ (Below.mono (by with_reducible assumption) ?_)) | go_size)
  have HA1 := hid hA1
  have hz1 := hb1.size
  have k0 := cell_later hb1 (a := ⟨w.heap.size, 0, none⟩) (v := .bool neg) (by go_cell)
  have k1 := cell_later hb1 (a := ⟨w.heap.size, 1, none⟩) (v := .slice a L c) (by go_cell)
  have k2 := cell_later hb1 (a := ⟨w.heap.size, 2, none⟩) (v := .bool false) (by go_cell)
  have k3 := cell_later hb1 (a := ⟨w.heap.size, 3, none⟩) (v := .slice a' L' c') (by go_cell)
  clear hb1 hA1
  simp at hz1
  go_wp2_with fail
  refine (HV2.out _ HA1.out).mono ?_
  rintro e w2 ⟨rfl, hb2⟩
  have HB2 := hid hb2
  have hz2 := hb2.size
  have j0 := cell_later hb2 k0
  have j1 := cell_later hb2 k1
  have j2 := cell_later hb2 k2
  have j3 := cell_later hb2 k3
  have hA2 : Below w.heap.size w w2 := by have h := HA1.out; repeat' (first | (with_reducible exact Below.refl _ _) | (with_reducible assumption) | (with_reducible refine below_drewN ?_) | (with_reducible refine Below.alloc ?_ ?_ _) | (with_reducible refine Below.drew ?_) | (with_reducible refine Below.setCell ?_ ?_ _) | (with_reducible refine Below.trans ?_ (Below.mono (by with_reducible assumption) ?_)) | go_size)
  have HA2 := hid hA2
  clear hb2 hA2
  go_wp2_with fail
  refine (HG.out _ HA2.out).mono ?_
  rintro e w3 ⟨v3, rfl, hv3, hb3⟩
  have HB3 := hid hb3
  have hz3 := hb3.size
  have HV3 := hid hv3.rd
  obtain ⟨p3, L3, c3, rfl, _⟩ := hv3.len
  clear hb3 hv3
  go_wp2_with fail
  have hn1 := Rd32.new1 w3 1 157 w3.heap.size rfl (by omega)
  rw [← HD1.out] at hn1
  have hcc := HC2.out _ _ _ 1 (HV3.out.alloc) hn1
  rw [cmpL_dig, sgn_self] at hcc
  have HCC := hid hcc
  clear hcc hn1
  refine HCC.out.mono ?_
  rintro e w4 ⟨rfl, k4, rfl⟩
  go_wp2
  go_ret
  exact ⟨by trivial, by have h2 := HA2.out; have h3 := HB3.out; repeat' (first | (with_reducible exact Below.refl _ _) | (with_reducible assumption) | (with_reducible refine below_drewN ?_) | (with_reducible refine Below.alloc ?_ ?_ _) | (with_reducible refine Below.drew ?_) | (with_reducible refine Below.setCell ?_ ?_ _) | (with_reducible refine Below.trans ?_ (Below.mono (by with_reducible assumption) ?_)) | go_size)⟩
 ·obtain rfl : p = 0 := by omega
  have hq1 : q = 1 := by rw [Nat.gcd_zero_left] at hpq; exact hpq
  subst hq1
  have hn : neg = false := hneg rfl
  subst hn
  have hL0 : (dig 0).length = 0 := by rw [dig_zero]; rfl
  have hL1 : (dig 1).length = 1 := by rw [hd1]; rfl
  clear h1 h2 hk1 hk2 hV1 hV2 hd1 hlp hlq HP hp2 hq2 hQ hneg hpq
  rw [hL0] at HV1
  rw [hL1] at HV2 HC1
  rw [hL0, hL1]
  clear hL0 hL1
  go_enter Tryz.func192, Tryz.ntmps192
  go_wp2_with fail
  refine (HV1.out _ (by repeat' (first | (with_reducible exact Below.refl _ _) | (with_reducible assumption) | (with_reducible refine below_drewN ?_) | (with_reducible refine Below.alloc ?_ ?_ _) | (with_reducible refine Below.drew ?_) | (with_reducible refine Below.setCell ?_ ?_ _) | (with_reducible refine Below.trans ?_ (Below.mono (by with_reducible assumption) ?_)) | go_size))).mono ?_
  rintro e w1 ⟨rfl, hb1⟩
  have hA1 : Below w.heap.size w w1 := by repeat' (first | (with_reducible exact Below.refl _ _) | (with_reducible assumption) | (with_reducible refine below_drewN ?_) | (with_reducible refine Below.alloc ?_ ?_ _) | (with_reducible refine Below.drew ?_) | (with_reducible refine Below.setCell ?_ ?_ _) | (with_reducible refine Below.trans ?_ (Below.mono (by with_reducible assumption) ?_)) | go_size)
  have HA1 := hid hA1
  have hz1 := hb1.size
  have k0 := cell_later hb1 (a := ⟨w.heap.size, 0, none⟩) (v := .bool false) (by go_cell)
  have k1 := cell_later hb1 (a := ⟨w.heap.size, 1, none⟩) (v := .slice a 0 c) (by go_cell)
  have k2 := cell_later hb1 (a := ⟨w.heap.size, 2, none⟩) (v := .bool false) (by go_cell)
  have k3 := cell_later hb1 (a := ⟨w.heap.size, 3, none⟩) (v := .slice a' 1 c') (by go_cell)
  clear hb1 hA1
  simp at hz1
  go_wp2_with fail
  refine (HV2.out _ HA1.out).mono ?_
  rintro e w2 ⟨rfl, hb2⟩
  have HB2 := hid hb2
  have hz2 := hb2.size
  have j0 := cell_later hb2 k0
  have j1 := cell_later hb2 k1
  have j2 := cell_later hb2 k2
  have j3 := cell_later hb2 k3
  have hA2 : Below w.heap.size w w2 := by have h := HA1.out; repeat' (first | (with_reducible exact Below.refl _ _) | (with_reducible assumption) | (with_reducible refine below_drewN ?_) | (with_reducible refine Below.alloc ?_ ?_ _) | (with_reducible refine Below.drew ?_) | (with_reducible refine Below.setCell ?_ ?_ _) | (with_reducible refine Below.trans ?_ (Below.mono (by with_reducible assumption) ?_)) | go_size)
  have HA2 := hid hA2
  clear hb2 hA2
  go_wp2_with fail
  have hn1 := Rd32.new1 w2 1 157 w2.heap.size rfl (by omega)
  rw [← HD1.out] at hn1
  have hcc := HC1.out _ _ hn1 (HA2.out.alloc (by omega) _)
  rw [cmpL_dig, sgn_self] at hcc
  have HCC := hid hcc
  clear hcc hn1
  refine HCC.out.mono ?_
  rintro e w4 ⟨rfl, k4, rfl⟩
  go_wp2
  go_ret
  exact ⟨by trivial, by have h2 := HA2.out; repeat' (first | (with_reducible exact Below.refl _ _) | (with_reducible assumption) | (with_reducible refine below_drewN ?_) | (with_reducible refine Below.alloc ?_ ?_ _) | (with_reducible refine Below.drew ?_) | (with_reducible refine Below.setCell ?_ ?_ _) | (with_reducible refine Below.trans ?_ (Below.mono (by with_reducible assumption) ?_)) | go_size)⟩
end Go.Proofs.YthblaeleogdfpaaGreatDoor.Fr

namespace Go.Proofs.YthblaeleogdfpaaGreatDoor.Fr
open Go.RowKit
def zF (neg : Bool) (p : Nat) : Int := if neg then -(p : Int) else (p : Int)
theorem zF_natAbs (neg : Bool) (p : Nat) : (zF neg p).natAbs = p := by cases neg <;> simp [zF]
theorem zF_neg {neg : Bool} {p : Nat} (h : p = 0 → neg = false) : decide (zF neg p < 0) = neg := by
 cases neg
 ·simp [zF]
 ·have : p ≠ 0 := fun e => by simpa using h e
  simp [zF]; omega
theorem rdZ_mk {w : World} {a : Option Addr} {c : Nat} {z : Int} (h : Rd32 w (.slice a (dig z.natAbs).length c) (dig z.natAbs)) : RdZ w (.agg #[.bool (decide (z < 0)), .slice a (dig z.natAbs).length c]) z := ⟨a, c, rfl, h⟩
theorem new_later {w wx : World} {C : Array Value} {t : TypeId} {i : Nat} {v : Value} (hb : Below (w.alloc (.cells C t)).heap.size (w.alloc (.cells C t)) wx) (h : C[i]? = some v) : wx.cell? ⟨w.heap.size, i, none⟩ = some v :=
 cell_later hb (by rw [World.cell?_alloc_new]; exact h)
theorem fnew_later {w wx : World} {C : Array Value} {t : TypeId} (hb : Below (w.alloc (.cells C t)).heap.size (w.alloc (.cells C t)) wx) (i : Nat) : wx.frozen? ⟨w.heap.size, i, none⟩ = false :=
 (hb.frozen (p := ⟨w.heap.size, i, none⟩) (by simp)).trans (by simp)
theorem new_later_drew {w wx : World} {C : Array Value} {t : TypeId} {i : Nat} {v : Value} (hb : Below (w.alloc (.cells C t)).drew.heap.size (w.alloc (.cells C t)).drew wx) (h : C[i]? = some v) : wx.cell? ⟨w.heap.size, i, none⟩ = some v :=
 cell_later hb (by rw [World.cell?_drew, World.cell?_alloc_new]; exact h)
theorem fnew_later_drew {w wx : World} {C : Array Value} {t : TypeId} (hb : Below (w.alloc (.cells C t)).drew.heap.size (w.alloc (.cells C t)).drew wx) (i : Nat) : wx.frozen? ⟨w.heap.size, i, none⟩ = false :=
 (hb.frozen (p := ⟨w.heap.size, i, none⟩) (by simp)).trans (by simp)
structure OkF (neg : Bool) (p q : Nat) : Prop where
  pos : 0 < q
  low : Nat.gcd p q = 1
  sign : p = 0 → neg = false
  num : p < 4294967296 ^ 256
  den : q < 4294967296 ^ 256
theorem len_mul' {k p q : Nat} (hp : p < 4294967296 ^ k) (hq : q < 4294967296 ^ k) : (dig (p * q)).length ≤ k + k := by
 have h : p * q < 4294967296 ^ (k + k) := by
  rw [Nat.pow_add]; exact Nat.mul_lt_mul'' hp hq
 exact dig_length_le h
theorem len_mul {p q : Nat} (hp : p < 4294967296 ^ 256) (hq : q < 4294967296 ^ 256) : (dig (p * q)).length ≤ 1073741824 :=
 Nat.le_trans (len_mul' hp hq) (by omega)
set_option maxRecDepth 100000 in
set_option maxHeartbeats 4000000 in
theorem ref_Cmp (u v : Value) (n1 n2 : Bool) (p1 q1 p2 q2 : Nat) (w : World) (hu : RdF w u n1 p1 q1) (hv : RdF w v n2 p2 q2) (ok1 : OkF n1 p1 q1) (ok2 : OkF n2 p2 q2) :
  Calls Tryz.prog 135 #[u, v] w (Ret w (.int .i64 (isgn (zF n1 p1 * (q2 : Int)) (zF n2 p2 * (q1 : Int))))) := by
 have HV1 := hid (fun W (hb : Below w.heap.size w W) => ref_Valid u n1 p1 q1 W (hu.kept hb) ok1.pos ok1.low ok1.sign ok1.num ok1.den)
 have HV2 := hid (fun W (hb : Below w.heap.size w W) => ref_Valid v n2 p2 q2 W (hv.kept hb) ok2.pos ok2.low ok2.sign ok2.num ok2.den)
 obtain ⟨a1, c1, b1, d1, rfl, ha1, hb1⟩ := hu
 obtain ⟨a2, c2, b2, d2, rfl, ha2, hb2⟩ := hv
 have zq : ∀ (W : World) (b : Option Addr) (d q : Nat), Rd32 W (.slice b (dig q).length d) (dig q) → RdZ W (.agg #[.bool false, .slice b (dig q).length d]) (q : Int) := fun W b d q h =>
  ⟨b, d, by rw [show decide ((q : Int) < 0) = false from by simp, Int.natAbs_natCast], by rw [Int.natAbs_natCast]; exact h⟩
 have zp : ∀ (W : World) (neg : Bool) (a : Option Addr) (c p : Nat), (p = 0 → neg = false) → Rd32 W (.slice a (dig p).length c) (dig p) → RdZ W (.agg #[.bool neg, .slice a (dig p).length c]) (zF neg p) := fun W neg a c p hs h =>
  ⟨a, c, by rw [zF_neg hs, zF_natAbs], by rw [zF_natAbs]; exact h⟩
 have hlp1 := Nat.le_trans (dig_length_le ok1.num) (show 256 ≤ 1073741824 by omega)
 have hlp2 := Nat.le_trans (dig_length_le ok2.num) (show 256 ≤ 1073741824 by omega)
 have hlq1 := Nat.le_trans (dig_length_le ok1.den) (show 256 ≤ 1073741824 by omega)
 have hlq2 := Nat.le_trans (dig_length_le ok2.den) (show 256 ≤ 1073741824 by omega)
 have HT1 := hid (fun W (hb : Below w.heap.size w W) => ref_Times _ _ _ _ W (zp W n1 a1 c1 p1 ok1.sign (ha1.kept hb)) (zq W b2 d2 q2 (hb2.kept hb)) (by rw [zF_natAbs]; exact hlp1) (by rw [Int.natAbs_natCast]; exact hlq2))
 have HT2 := hid (fun W (hb : Below w.heap.size w W) => ref_Times _ _ _ _ W (zp W n2 a2 c2 p2 ok2.sign (ha2.kept hb)) (zq W b1 d1 q1 (hb1.kept hb)) (by rw [zF_natAbs]; exact hlp2) (by rw [Int.natAbs_natCast]; exact hlq1))
 have hlx : (dig (zF n1 p1 * (q2 : Int)).natAbs).length ≤ 1073741824 := by rw [Int.natAbs_mul, zF_natAbs, Int.natAbs_natCast]; exact len_mul ok1.num ok2.den
 have hly : (dig (zF n2 p2 * (q1 : Int)).natAbs).length ≤ 1073741824 := by rw [Int.natAbs_mul, zF_natAbs, Int.natAbs_natCast]; exact len_mul ok2.num ok1.den
 clear zq zp ha1 hb1 ha2 hb2 hlp1 hlp2 hlq1 hlq2 ok1 ok2
 generalize zF n1 p1 * (q2 : Int) = x at *
 generalize zF n2 p2 * (q1 : Int) = y at *
 have HM := hid (fun W a c (h : Rd32 W _ _) => ref_Minus a c y W h)
 have hlm : (dig (-y).natAbs).length ≤ 1073741824 := by rw [Int.natAbs_neg]; exact hly
 have hF : isgn x y = if x + -y = 0 then 0 else if x + -y < 0 then -1 else 1 := by
  by_cases h : x < y
  ·rw [isgn_lt h, if_neg (by omega), if_pos (by omega)]
  ·by_cases h2 : y < x
   ·rw [isgn_gt h2, if_neg (by omega), if_neg (by omega)]
   ·rw [isgn_eq (by omega), if_pos (by omega)]
 generalize -y = m at *
 have HP := hid (fun W u v hu hv => ref_Plus u v x m W hu hv hlx hlm)
 generalize x + m = t at *
 have HF := hid hF
 clear hF
 generalize isgn x y = F at *
 clear hlx hly hlm
 have HL := @dig_length_pos t.natAbs
 generalize (dig p1).length = L1 at *
 generalize (dig p2).length = L2 at *
 generalize (dig q1).length = M1 at *
 generalize (dig q2).length = M2 at *
 have HLL := hid HL
 clear HL
 go_enter Tryz.func135, Tryz.ntmps135
 go_wp2_with fail
 refine (HV1.out _ (by repeat' (first | (with_reducible exact Below.refl _ _) | (with_reducible assumption) | (with_reducible refine below_drewN ?_) | (with_reducible refine Below.alloc ?_ ?_ _) | (with_reducible refine Below.drew ?_) | (with_reducible refine Below.setCell ?_ ?_ _) | (with_reducible refine Below.trans ?_ (Below.mono (by with_reducible assumption) ?_)) | go_size))).mono ?_
 rintro e w1 ⟨rfl, hb1⟩
 have hA1 : Below w.heap.size w w1 := by repeat' (first | (with_reducible exact Below.refl _ _) | (with_reducible assumption) | (with_reducible refine below_drewN ?_) | (with_reducible refine Below.alloc ?_ ?_ _) | (with_reducible refine Below.drew ?_) | (with_reducible refine Below.setCell ?_ ?_ _) | (with_reducible refine Below.trans ?_ (Below.mono (by with_reducible assumption) ?_)) | go_size)
 have HA1 := hid hA1
 have hz1 := hb1.size
 have k0 := cell_later hb1 (a := ⟨w.heap.size, 0, none⟩) (v := .bool n1) (by go_cell)
 have k1 := cell_later hb1 (a := ⟨w.heap.size, 1, none⟩) (v := .slice a1 L1 c1) (by go_cell)
 have k2 := cell_later hb1 (a := ⟨w.heap.size, 2, none⟩) (v := .bool false) (by go_cell)
 have k3 := cell_later hb1 (a := ⟨w.heap.size, 3, none⟩) (v := .slice b1 M1 d1) (by go_cell)
 have k4 := cell_later hb1 (a := ⟨w.heap.size + 1, 0, none⟩) (v := .bool n2) (by go_cell)
 have k5 := cell_later hb1 (a := ⟨w.heap.size + 1, 1, none⟩) (v := .slice a2 L2 c2) (by go_cell)
 have k6 := cell_later hb1 (a := ⟨w.heap.size + 1, 2, none⟩) (v := .bool false) (by go_cell)
 have k7 := cell_later hb1 (a := ⟨w.heap.size + 1, 3, none⟩) (v := .slice b2 M2 d2) (by go_cell)
 clear hb1 hA1
 simp at hz1
 go_wp2_with fail
 refine (HV2.out _ HA1.out).mono ?_
 rintro e w2 ⟨rfl, hb2⟩
 have hz2 := hb2.size
 have j0 := cell_later hb2 k0
 have j1 := cell_later hb2 k1
 have j2 := cell_later hb2 k2
 have j3 := cell_later hb2 k3
 have j4 := cell_later hb2 k4
 have j5 := cell_later hb2 k5
 have j6 := cell_later hb2 k6
 have j7 := cell_later hb2 k7
 have hA2 : Below w.heap.size w w2 := by have h := HA1.out; repeat' (first | (with_reducible exact Below.refl _ _) | (with_reducible assumption) | (with_reducible refine below_drewN ?_) | (with_reducible refine Below.alloc ?_ ?_ _) | (with_reducible refine Below.drew ?_) | (with_reducible refine Below.setCell ?_ ?_ _) | (with_reducible refine Below.trans ?_ (Below.mono (by with_reducible assumption) ?_)) | go_size)
 clear hb2
 go_wp2_with fail
 go_region_held3 (fun w' => w'.cell? ⟨w.heap.size, 0, none⟩ = some (.bool n1) ∧ w'.cell? ⟨w.heap.size, 1, none⟩ = some (.slice a1 L1 c1) ∧ w'.cell? ⟨w.heap.size, 2, none⟩ = some (.bool false) ∧ w'.cell? ⟨w.heap.size, 3, none⟩ = some (.slice b1 M1 d1) ∧ w'.cell? ⟨w.heap.size + 1, 0, none⟩ = some (.bool n2) ∧ w'.cell? ⟨w.heap.size + 1, 1, none⟩ = some (.slice a2 L2 c2) ∧ w'.cell? ⟨w.heap.size + 1, 2, none⟩ = some (.bool false) ∧ w'.cell? ⟨w.heap.size + 1, 3, none⟩ = some (.slice b2 M2 d2)) (first | exact ⟨j0, j1, j2, j3, j4, j5, j6, j7⟩ | exact ⟨km0, km1, km2, km3, km4, km5, km6, km7⟩ | exact ⟨kn0, kn1, kn2, kn3, kn4, kn5, kn6, kn7⟩ | exact ⟨ko0, ko1, ko2, ko3, ko4, ko5, ko6, ko7⟩ | exact ⟨kp0, kp1, kp2, kp3, kp4, kp5, kp6, kp7⟩ | (refine ⟨?_, ?_, ?_, ?_, ?_, ?_, ?_, ?_⟩ <;> (rw [World.cell?_setCell_other _ _ _ _ (by intro h; injection h with h; omega), World.cell?_setCell_other _ _ _ _ (by intro h; injection h with h; omega)]; assumption)) | go_keep)
  (first
   | (go_at_call_of 194 (c2); go_must (((with_reducible refine (HT2.out _ (by repeat' (first | (with_reducible exact Below.refl _ _) | (with_reducible assumption) | (with_reducible refine below_drewN ?_) | (with_reducible refine Below.alloc ?_ ?_ _) | (with_reducible refine Below.drew ?_) | (with_reducible refine Below.setCell ?_ ?_ _) | (with_reducible refine Below.trans ?_ (Below.mono (by with_reducible assumption) ?_)) | go_size))).mono ?_); rintro e w4 ⟨ua, uc, rfl, hr1, hr2, hb4⟩; have HU1 := hid hr1; have hz4 := hb4.size; clear hr1 hr2; (try simp at hz4); have kn0 := cell_later hb4 (a := ⟨w.heap.size, 0, none⟩) (v := .bool n1) (by go_cell); have kn1 := cell_later hb4 (a := ⟨w.heap.size, 1, none⟩) (v := .slice a1 L1 c1) (by go_cell); have kn2 := cell_later hb4 (a := ⟨w.heap.size, 2, none⟩) (v := .bool false) (by go_cell); have kn3 := cell_later hb4 (a := ⟨w.heap.size, 3, none⟩) (v := .slice b1 M1 d1) (by go_cell); have kn4 := cell_later hb4 (a := ⟨w.heap.size + 1, 0, none⟩) (v := .bool n2) (by go_cell); have kn5 := cell_later hb4 (a := ⟨w.heap.size + 1, 1, none⟩) (v := .slice a2 L2 c2) (by go_cell); have kn6 := cell_later hb4 (a := ⟨w.heap.size + 1, 2, none⟩) (v := .bool false) (by go_cell); have kn7 := cell_later hb4 (a := ⟨w.heap.size + 1, 3, none⟩) (v := .slice b2 M2 d2) (by go_cell); (first | (have fz0 := frozen_later hb4 z0 fz0; have fz1 := frozen_later hb4 z1 fz1; have z0 := cell_later hb4 z0; have z1 := cell_later hb4 z1) | (have z0 := new_later hb4 (i := 0) rfl; have z1 := new_later hb4 (i := 1) rfl; have fz0 := fnew_later hb4 0; have fz1 := fnew_later hb4 1) | (have z0 := new_later_drew hb4 (i := 0) rfl; have z1 := new_later_drew hb4 (i := 1) rfl; have fz0 := fnew_later_drew hb4 0; have fz1 := fnew_later_drew hb4 1) | skip))))
   | (go_at_call_of 194 (c1); go_must (((with_reducible refine (HT1.out _ (by repeat' (first | (with_reducible exact Below.refl _ _) | (with_reducible assumption) | (with_reducible refine below_drewN ?_) | (with_reducible refine Below.alloc ?_ ?_ _) | (with_reducible refine Below.drew ?_) | (with_reducible refine Below.setCell ?_ ?_ _) | (with_reducible refine Below.trans ?_ (Below.mono (by with_reducible assumption) ?_)) | go_size))).mono ?_); rintro e w3 ⟨ta, tc, rfl, hr1, hr2, hb3⟩; have HR1 := hid hr1; have hz3 := hb3.size; clear hr1 hr2; (try simp at hz3); have km0 := cell_later hb3 (a := ⟨w.heap.size, 0, none⟩) (v := .bool n1) (by go_cell); have km1 := cell_later hb3 (a := ⟨w.heap.size, 1, none⟩) (v := .slice a1 L1 c1) (by go_cell); have km2 := cell_later hb3 (a := ⟨w.heap.size, 2, none⟩) (v := .bool false) (by go_cell); have km3 := cell_later hb3 (a := ⟨w.heap.size, 3, none⟩) (v := .slice b1 M1 d1) (by go_cell); have km4 := cell_later hb3 (a := ⟨w.heap.size + 1, 0, none⟩) (v := .bool n2) (by go_cell); have km5 := cell_later hb3 (a := ⟨w.heap.size + 1, 1, none⟩) (v := .slice a2 L2 c2) (by go_cell); have km6 := cell_later hb3 (a := ⟨w.heap.size + 1, 2, none⟩) (v := .bool false) (by go_cell); have km7 := cell_later hb3 (a := ⟨w.heap.size + 1, 3, none⟩) (v := .slice b2 M2 d2) (by go_cell); (first | (have z0 := new_later hb3 (i := 0) rfl; have z1 := new_later hb3 (i := 1) rfl; have fz0 := fnew_later hb3 0; have fz1 := fnew_later hb3 1) | (have z0 := new_later_drew hb3 (i := 0) rfl; have z1 := new_later_drew hb3 (i := 1) rfl; have fz0 := fnew_later_drew hb3 0; have fz1 := fnew_later_drew hb3 1) | skip))))
   | (go_at_call 195; go_must (((with_reducible refine (HM.out _ _ _ (HU1.out.kept (by repeat' (first | (with_reducible exact Below.refl _ _) | (with_reducible assumption) | (with_reducible refine below_drewN ?_) | (with_reducible refine Below.alloc ?_ ?_ _) | (with_reducible refine Below.drew ?_) | (with_reducible refine Below.setCell ?_ ?_ _) | (with_reducible refine Below.trans ?_ (Below.mono (by with_reducible assumption) ?_)) | go_size)))).mono ?_); rintro e w5 ⟨va, vc, rfl, hr1, hr2, hb5⟩; have HV1 := hid hr1; have hz5 := hb5.size; clear hr1 hr2; (try simp at hz5); have ko0 := cell_later hb5 (a := ⟨w.heap.size, 0, none⟩) (v := .bool n1) (by go_cell); have ko1 := cell_later hb5 (a := ⟨w.heap.size, 1, none⟩) (v := .slice a1 L1 c1) (by go_cell); have ko2 := cell_later hb5 (a := ⟨w.heap.size, 2, none⟩) (v := .bool false) (by go_cell); have ko3 := cell_later hb5 (a := ⟨w.heap.size, 3, none⟩) (v := .slice b1 M1 d1) (by go_cell); have ko4 := cell_later hb5 (a := ⟨w.heap.size + 1, 0, none⟩) (v := .bool n2) (by go_cell); have ko5 := cell_later hb5 (a := ⟨w.heap.size + 1, 1, none⟩) (v := .slice a2 L2 c2) (by go_cell); have ko6 := cell_later hb5 (a := ⟨w.heap.size + 1, 2, none⟩) (v := .bool false) (by go_cell); have ko7 := cell_later hb5 (a := ⟨w.heap.size + 1, 3, none⟩) (v := .slice b2 M2 d2) (by go_cell); (first | (have fz0 := frozen_later hb5 z0 fz0; have fz1 := frozen_later hb5 z1 fz1; have z0 := cell_later hb5 z0; have z1 := cell_later hb5 z1) | (have z0 := new_later hb5 (i := 0) rfl; have z1 := new_later hb5 (i := 1) rfl; have fz0 := fnew_later hb5 0; have fz1 := fnew_later hb5 1) | (have z0 := new_later_drew hb5 (i := 0) rfl; have z1 := new_later_drew hb5 (i := 1) rfl; have fz0 := fnew_later_drew hb5 0; have fz1 := fnew_later_drew hb5 1) | skip))))
   | (go_at_call 193; go_must (((with_reducible refine (HP.out _ _ _ (rdZ_mk (HR1.out.kept (by repeat' (first | (with_reducible exact Below.refl _ _) | (with_reducible assumption) | (with_reducible refine below_drewN ?_) | (with_reducible refine Below.alloc ?_ ?_ _) | (with_reducible refine Below.drew ?_) | (with_reducible refine Below.setCell ?_ ?_ _) | (with_reducible refine Below.trans ?_ (Below.mono (by with_reducible assumption) ?_)) | go_size)))) (rdZ_mk (HV1.out.kept (by repeat' (first | (with_reducible exact Below.refl _ _) | (with_reducible assumption) | (with_reducible refine below_drewN ?_) | (with_reducible refine Below.alloc ?_ ?_ _) | (with_reducible refine Below.drew ?_) | (with_reducible refine Below.setCell ?_ ?_ _) | (with_reducible refine Below.trans ?_ (Below.mono (by with_reducible assumption) ?_)) | go_size))))).mono ?_); rintro e w6 ⟨xa, xc, rfl, hr1, hr2, hb6⟩; have HW1 := hid hr1; have hz6 := hb6.size; clear hr1 hr2; (try simp at hz6); have kp0 := cell_later hb6 (a := ⟨w.heap.size, 0, none⟩) (v := .bool n1) (by go_cell); have kp1 := cell_later hb6 (a := ⟨w.heap.size, 1, none⟩) (v := .slice a1 L1 c1) (by go_cell); have kp2 := cell_later hb6 (a := ⟨w.heap.size, 2, none⟩) (v := .bool false) (by go_cell); have kp3 := cell_later hb6 (a := ⟨w.heap.size, 3, none⟩) (v := .slice b1 M1 d1) (by go_cell); have kp4 := cell_later hb6 (a := ⟨w.heap.size + 1, 0, none⟩) (v := .bool n2) (by go_cell); have kp5 := cell_later hb6 (a := ⟨w.heap.size + 1, 1, none⟩) (v := .slice a2 L2 c2) (by go_cell); have kp6 := cell_later hb6 (a := ⟨w.heap.size + 1, 2, none⟩) (v := .bool false) (by go_cell); have kp7 := cell_later hb6 (a := ⟨w.heap.size + 1, 3, none⟩) (v := .slice b2 M2 d2) (by go_cell); (first | (have fz0 := frozen_later hb6 z0 fz0; have fz1 := frozen_later hb6 z1 fz1; have z0 := cell_later hb6 z0; have z1 := cell_later hb6 z1) | (have z0 := new_later hb6 (i := 0) rfl; have z1 := new_later hb6 (i := 1) rfl; have fz0 := fnew_later hb6 0; have fz1 := fnew_later hb6 1) | (have z0 := new_later_drew hb6 (i := 0) rfl; have z1 := new_later_drew hb6 (i := 1) rfl; have fz0 := fnew_later_drew hb6 0; have fz1 := fnew_later_drew hb6 1) | skip)))))
 all_goals
  have hL3 := HLL.out
  generalize hst : decide (t < 0) = st at *
  generalize (dig t.natAbs).length = LT at *
  rcases (show t = 0 ∨ t < 0 ∨ 0 < t by omega) with h | h | h
  ·obtain rfl : LT = 0 := by omega
   have H := hid h
   clear hL3 h hst HLL
   go_wp2
   go_ret
   exact ⟨ret_int (by rw [HF.out, if_pos H.out]), by repeat' (first | (with_reducible exact Below.refl _ _) | (with_reducible assumption) | (with_reducible refine below_drewN ?_) | (with_reducible refine Below.alloc ?_ ?_ _) | (with_reducible refine Below.drew ?_) | (with_reducible refine Below.setCell ?_ ?_ _) | (with_reducible refine Below.trans ?_ (Below.mono (by with_reducible assumption) ?_)) | go_size)⟩
  ·have hne : ((LT : Int) == 0) = false := by simp; omega
   obtain rfl : true = st := by rw [← hst]; simp [h]
   have H := hid h
   clear hL3 h hst HLL
   go_wp2
   go_ret
   exact ⟨ret_int (by rw [HF.out, if_neg (by have := H.out; omega), if_pos H.out]), by repeat' (first | (with_reducible exact Below.refl _ _) | (with_reducible assumption) | (with_reducible refine below_drewN ?_) | (with_reducible refine Below.alloc ?_ ?_ _) | (with_reducible refine Below.drew ?_) | (with_reducible refine Below.setCell ?_ ?_ _) | (with_reducible refine Below.trans ?_ (Below.mono (by with_reducible assumption) ?_)) | go_size)⟩
  ·have hne : ((LT : Int) == 0) = false := by simp; omega
   obtain rfl : false = st := by rw [← hst]; simp; omega
   have H := hid h
   clear hL3 h hst HLL
   go_wp2
   go_ret
   exact ⟨ret_int (by rw [HF.out, if_neg (by have := H.out; omega), if_neg (by have := H.out; omega)]), by repeat' (first | (with_reducible exact Below.refl _ _) | (with_reducible assumption) | (with_reducible refine below_drewN ?_) | (with_reducible refine Below.alloc ?_ ?_ _) | (with_reducible refine Below.drew ?_) | (with_reducible refine Below.setCell ?_ ?_ _) | (with_reducible refine Below.trans ?_ (Below.mono (by with_reducible assumption) ?_)) | go_size)⟩
end Go.Proofs.YthblaeleogdfpaaGreatDoor.Fr
