/- Contracts of the reference: Times, Minus, Whole, Valid. Contract of the reference's comparison of fractions. -/
import Derived.Test.YthblaeleogdfpaaGreatDoorCPaav
import Derived.Test.YthblaeleogdfpaaGreatDoorCPaau
set_option linter.unusedVariables false
set_option linter.unusedSimpArgs false
namespace Go.Proofs.YthblaeleogdfpaaGreatDoor.Fr
open Go.RowKit
set_option maxRecDepth 100000 in
set_option maxHeartbeats 1000000 in
theorem ref_Valid (v : Value) (neg : Bool) (p q : Nat) (w : World) (hv : RdF w v neg p q) (hq : 0 < q) (hpq : Nat.gcd p q = 1) (hneg : p = 0 → neg = false) (hp2 : p < 4294967296 ^ 256) (hq2 : q < 4294967296 ^ 256) :
  Calls Tryz.prog 192 #[v] w (Ret w (.bool true)) := by
 obtain ⟨a, c, a', c', rfl, h1, h2⟩ := hv
 have HX := hid h1
 have HY := hid h2
 have hk1 := okBig_dig neg p hp2 hneg
 have hk2 := okBig_dig false q hq2 (fun _ => rfl)
 have hlp := dig_length_le hp2
 have hlq := dig_length_le hq2
 have hV1 := fun W (hb : Below w.heap.size w W) => ref_ValidBig (.agg #[.bool neg, .slice a (dig p).length c]) neg (dig p) W ⟨a, c, rfl, h1.kept hb⟩
 have hV2 := fun W (hb : Below w.heap.size w W) => ref_ValidBig (.agg #[.bool false, .slice a' (dig q).length c']) false (dig q) W ⟨a', c', rfl, h2.kept hb⟩
 rw [hk1] at hV1
 rw [hk2] at hV2
 have HV1 := hid hV1
 have HV2 := hid hV2
 have HP := @dig_length_pos p
 have hQ := dig_length_pos.2 hq
 have HC1 := hid (fun W v1 (hy : Rd32 W v1 (dig 1)) (hb : Below w.heap.size w W) => ref_cmp _ v1 _ _ W (h2.kept hb) hy)
 have HC2 := hid (fun W v2 v1 n (hx : Rd32 W v2 (dig n)) (hy : Rd32 W v1 (dig 1)) => ref_cmp v2 v1 _ _ W hx hy)
 have hd1 : dig 1 = [1] := dig_one_digit (by omega) (by omega)
 have HD1 := hid hd1
 by_cases hp : 0 < p
 ·have HG := hid (fun W (hb : Below w.heap.size w W) => ref_gcd _ _ p q W (h1.kept hb) (h2.kept hb) hp hq (by omega) (by omega))
  rw [hpq] at HG
  have hP := HP.2 hp
  clear h1 h2 hk1 hk2 hV1 hV2 hd1 hlp hlq HP hp2 hq2
  generalize (dig p).length = L at *
  generalize (dig q).length = L' at *
  have hne : ((L : Int) == 0) = false := by simp; omega
  have hne' : ((L' : Int) == 0) = false := by simp; omega
  go_enter Tryz.func192, Tryz.ntmps192
  go_wp2_with fail
  refine (HV1.out _ (by repeat' (first | (with_reducible exact Below.refl _ _) | (with_reducible assumption) | (with_reducible refine below_drewN ?_) | (with_reducible refine Below.alloc ?_ ?_ _) | (with_reducible refine Below.drew ?_) | (with_reducible refine Below.setCell ?_ ?_ _) | (with_reducible refine Below.trans ?_ (Below.mono (by with_reducible assumption) ?_)) | go_size))).mono ?_
  rintro e w1 ⟨rfl, hb1⟩
  have hA1 : Below w.heap.size w w1 := by repeat' (first | (with_reducible exact Below.refl _ _) | (with_reducible assumption) | (with_reducible refine below_drewN ?_) | (with_reducible refine Below.alloc ?_ ?_ _) | (with_reducible refine Below.drew ?_) | (with_reducible refine Below.setCell ?_ ?_ _) | (with_reducible refine Below.trans ?_ (Below.mono (by with_reducible assumption) ?_)) | go_size)
  have HA1 := hid hA1
  have hz1 := hb1.size
  have k0 := cell_later hb1 (a := ⟨w.heap.size, 0, none⟩) (v := .bool neg) (by go_cell)
  have k1 := cell_later hb1 (a := ⟨w.heap.size, 1, none⟩) (v := .slice a L c) (by go_cell)
  have k2 := cell_later hb1 (a := ⟨w.heap.size, 2, none⟩) (v := .bool false) (by go_cell)
  have k3 := cell_later hb1 (a := ⟨w.heap.size, 3, none⟩) (v := .slice a' L' c') (by go_cell)
  clear hb1 hA1
  simp at hz1
  go_wp2_with fail
  refine (HV2.out _ HA1.out).mono ?_
  rintro e w2 ⟨rfl, hb2⟩
  have HB2 := hid hb2
  have hz2 := hb2.size
  have j0 := cell_later hb2 k0
  have j1 := cell_later hb2 k1
  have j2 := cell_later hb2 k2
  have j3 := cell_later hb2 k3
  have hA2 : Below w.heap.size w w2 := by have h := HA1.out; repeat' (first | (with_reducible exact Below.refl _ _) | (with_reducible assumption) | (with_reducible refine below_drewN ?_) | (with_reducible refine Below.alloc ?_ ?_ _) | (with_reducible refine Below.drew ?_) | (with_reducible refine Below.setCell ?_ ?_ _) | (with_reducible refine Below.trans ?_ (Below.mono (by with_reducible assumption) ?_)) | go_size)
  have HA2 := hid hA2
  clear hb2 hA2
  go_wp2_with fail
  refine (HG.out _ HA2.out).mono ?_
  rintro e w3 ⟨v3, rfl, hv3, hb3⟩
  have HB3 := hid hb3
  have hz3 := hb3.size
  have HV3 := hid hv3.rd
  obtain ⟨p3, L3, c3, rfl, _⟩ := hv3.len
  clear hb3 hv3
  go_wp2_with fail
  have hn1 := Rd32.new1 w3 1 157 w3.heap.size rfl (by omega)
  rw [← HD1.out] at hn1
  have hcc := HC2.out _ _ _ 1 (HV3.out.alloc) hn1
  rw [cmpL_dig, sgn_self] at hcc
  have HCC := hid hcc
  clear hcc hn1
  refine HCC.out.mono ?_
  rintro e w4 ⟨rfl, k4, rfl⟩
  go_wp2
  go_ret
  exact ⟨by trivial, by have h2 := HA2.out; have h3 := HB3.out; repeat' (first | (with_reducible exact Below.refl _ _) | (with_reducible assumption) | (with_reducible refine below_drewN ?_) | (with_reducible refine Below.alloc ?_ ?_ _) | (with_reducible refine Below.drew ?_) | (with_reducible refine Below.setCell ?_ ?_ _) | (with_reducible refine Below.trans ?_ (Below.mono (by with_reducible assumption) ?_)) | go_size)⟩
 ·obtain rfl : p = 0 := by omega
  have hq1 : q = 1 := by rw [Nat.gcd_zero_left] at hpq; exact hpq
  subst hq1
  have hn : neg = false := hneg rfl
  subst hn
  have hL0 : (dig 0).length = 0 := by rw [dig_zero]; rfl
  have hL1 : (dig 1).length = 1 := by rw [hd1]; rfl
  clear h1 h2 hk1 hk2 hV1 hV2 hd1 hlp hlq HP hp2 hq2 hQ hneg hpq
  rw [hL0] at HV1
  rw [hL1] at HV2 HC1
  rw [hL0, hL1]
  clear hL0 hL1
  go_enter Tryz.func192, Tryz.ntmps192
  go_wp2_with fail
  refine (HV1.out _ (by repeat' (first | (with_reducible exact Below.refl _ _) | (with_reducible assumption) | (with_reducible refine below_drewN ?_) | (with_reducible refine Below.alloc ?_ ?_ _) | (with_reducible refine Below.drew ?_) | (with_reducible refine Below.setCell ?_ ?_ _) | (with_reducible refine Below.trans ?_ (Below.mono (by with_reducible assumption) ?_)) | go_size))).mono ?_
  rintro e w1 ⟨rfl, hb1⟩
  have hA1 : Below w.heap.size w w1 := by repeat' (first | (with_reducible exact Below.refl _ _) | (with_reducible assumption) | (with_reducible refine below_drewN ?_) | (with_reducible refine Below.alloc ?_ ?_ _) | (with_reducible refine Below.drew ?_) | (with_reducible refine Below.setCell ?_ ?_ _) | (with_reducible refine Below.trans ?_ (Below.mono (by with_reducible assumption) ?_)) | go_size)
  have HA1 := hid hA1
  have hz1 := hb1.size
  have k0 := cell_later hb1 (a := ⟨w.heap.size, 0, none⟩) (v := .bool false) (by go_cell)
  have k1 := cell_later hb1 (a := ⟨w.heap.size, 1, none⟩) (v := .slice a 0 c) (by go_cell)
  have k2 := cell_later hb1 (a := ⟨w.heap.size, 2, none⟩) (v := .bool false) (by go_cell)
  have k3 := cell_later hb1 (a := ⟨w.heap.size, 3, none⟩) (v := .slice a' 1 c') (by go_cell)
  clear hb1 hA1
  simp at hz1
  go_wp2_with fail
  refine (HV2.out _ HA1.out).mono ?_
  rintro e w2 ⟨rfl, hb2⟩
  have HB2 := hid hb2
  have hz2 := hb2.size
  have j0 := cell_later hb2 k0
  have j1 := cell_later hb2 k1
  have j2 := cell_later hb2 k2
  have j3 := cell_later hb2 k3
  have hA2 : Below w.heap.size w w2 := by have h := HA1.out; repeat' (first | (with_reducible exact Below.refl _ _) | (with_reducible assumption) | (with_reducible refine below_drewN ?_) | (with_reducible refine Below.alloc ?_ ?_ _) | (with_reducible refine Below.drew ?_) | (with_reducible refine Below.setCell ?_ ?_ _) | (with_reducible refine Below.trans ?_ (Below.mono (by with_reducible assumption) ?_)) | go_size)
  have HA2 := hid hA2
  clear hb2 hA2
  go_wp2_with fail
  have hn1 := Rd32.new1 w2 1 157 w2.heap.size rfl (by omega)
  rw [← HD1.out] at hn1
  have hcc := HC1.out _ _ hn1 (HA2.out.alloc (by omega) _)
  rw [cmpL_dig, sgn_self] at hcc
  have HCC := hid hcc
  clear hcc hn1
  refine HCC.out.mono ?_
  rintro e w4 ⟨rfl, k4, rfl⟩
  go_wp2
  go_ret
  exact ⟨by trivial, by have h2 := HA2.out; repeat' (first | (with_reducible exact Below.refl _ _) | (with_reducible assumption) | (with_reducible refine below_drewN ?_) | (with_reducible refine Below.alloc ?_ ?_ _) | (with_reducible refine Below.drew ?_) | (with_reducible refine Below.setCell ?_ ?_ _) | (with_reducible refine Below.trans ?_ (Below.mono (by with_reducible assumption) ?_)) | go_size)⟩
end Go.Proofs.YthblaeleogdfpaaGreatDoor.Fr

namespace Go.Proofs.YthblaeleogdfpaaGreatDoor.Fr
open Go.RowKit
def zF (neg : Bool) (p : Nat) : Int := if neg then -(p : Int) else (p : Int)
structure OkF (neg : Bool) (p q : Nat) : Prop where
  pos : 0 < q
  low : Nat.gcd p q = 1
  sign : p = 0 → neg = false
  num : p < 4294967296 ^ 256
  den : q < 4294967296 ^ 256
end Go.Proofs.YthblaeleogdfpaaGreatDoor.Fr
