/- Contracts of package fraction: reduced, Make, Of, of numbers of one digit. Contracts of fraction.Of (small numbers), containment.Valid and containment.Score. Contracts of the reference's sum and difference of words. -/
import Derived.Test.YtikiimlmoalbcaaGreatDoorCoFac
import Derived.Test.YtikiimlmoalbcaaGreatDoorCoFab
set_option linter.unusedVariables false
set_option linter.unusedSimpArgs false
namespace Go.Proofs.YtikiimlmoalbcaaGreatDoor.Fr
open Go.RowKit
def RdF (w : World) (v : Value) (neg : Bool) (p q : Nat) : Prop :=
  ∃ a c a' c', v = .agg #[.bool neg, .slice a (dig p).length c, .bool false, .slice a' (dig q).length c'] ∧ Rd32 w (.slice a (dig p).length c) (dig p) ∧ Rd32 w (.slice a' (dig q).length c') (dig q)
theorem RdF.kept {w w' : World} {v : Value} {neg : Bool} {p q : Nat} (h : RdF w v neg p q) (hb : Below w.heap.size w w') : RdF w' v neg p q := by
  obtain ⟨a, c, a', c', e, h1, h2⟩ := h; exact ⟨a, c, a', c', e, h1.kept hb, h2.kept hb⟩
def NewF (B : Nat) (w' : World) (a : Option Addr) (c : Nat) (a' : Option Addr) (c' : Nat) (p q : Nat) : Prop :=
  Rd32 w' (.slice a (dig p).length c) (dig p) ∧ Rd32 w' (.slice a' (dig q).length c') (dig q) ∧ (∀ R, R < B → Off R (.slice a (dig p).length c)) ∧ (∀ R, R < B → Off R (.slice a' (dig q).length c'))
theorem NewF.setCell {B : Nat} {w' : World} {a : Option Addr} {c : Nat} {a' : Option Addr} {c' p q : Nat} (h : NewF B w' a c a' c' p q) {x : Addr} {v : Value} (hx : x.block < B) : NewF B (w'.setCell x v) a c a' c' p q :=
  ⟨h.1.setCell (h.2.2.1 _ hx), h.2.1.setCell (h.2.2.2 _ hx), h.2.2⟩
theorem NewF.mono {B B' : Nat} {w' : World} {a : Option Addr} {c : Nat} {a' : Option Addr} {c' p q : Nat} (h : NewF B w' a c a' c' p q) (hB : B' ≤ B) : NewF B' w' a c a' c' p q :=
  ⟨h.1, h.2.1, fun R hR => h.2.2.1 R (by omega), fun R hR => h.2.2.2 R (by omega)⟩
theorem NewF.kept {B : Nat} {w w' : World} {a : Option Addr} {c : Nat} {a' : Option Addr} {c' p q : Nat} (h : NewF B w a c a' c' p q) (hb : Below w.heap.size w w') : NewF B w' a c a' c' p q :=
  ⟨h.1.kept hb, h.2.1.kept hb, h.2.2⟩
theorem NewF.rd {B : Nat} {w : World} {a : Option Addr} {c : Nat} {a' : Option Addr} {c' p q : Nat} (h : NewF B w a c a' c' p q) (neg : Bool) : RdF w (.agg #[.bool neg, .slice a (dig p).length c, .bool false, .slice a' (dig q).length c']) neg p q := ⟨a, c, a', c', rfl, h.1, h.2.1⟩
def GivesF (w : World) (neg : Bool) (p q : Nat) (e : Ending) (w' : World) : Prop :=
  ∃ a c a' c', e = .returned (.agg #[.bool neg, .slice a (dig p).length c, .bool false, .slice a' (dig q).length c']) ∧ NewF w.heap.size w' a c a' c' p q ∧ Below w.heap.size w w'
def GivesFE (w : World) (neg : Bool) (p q : Nat) (r : Value) (e : Ending) (w' : World) : Prop :=
  ∃ a c a' c', e = .returned (.tuple #[.agg #[.bool neg, .slice a (dig p).length c, .bool false, .slice a' (dig q).length c'], r]) ∧ NewF w.heap.size w' a c a' c' p q ∧ Below w.heap.size w w'
set_option maxRecDepth 100000 in
set_option maxHeartbeats 2000000 in
theorem frac_reduced1 (s1 : Bool) (a a' : Option Addr) (c c' : Nat) (n d : Nat) (w : World) (hx : Rd32 w (.slice a (dig n).length c) (dig n)) (hy : Rd32 w (.slice a' (dig d).length c') (dig d)) (hl : (dig n).length ≤ 1073741824) (hd : 0 < d) (hd2 : d < 4294967296) :
  Calls Tryz.prog 179 #[.agg #[.bool s1, .slice a (dig n).length c], .agg #[.bool false, .slice a' (dig d).length c']] w (GivesF w (s1 && decide (0 < n / Nat.gcd n d)) (n / Nat.gcd n d) (d / Nat.gcd n d)) := by
 have hg0 : 0 < Nat.gcd n d := Nat.gcd_pos_of_pos_right _ hd
 have hgd : Nat.gcd n d ≤ d := Nat.gcd_le_right _ hd
 have hld : (dig d).length ≤ 1073741824 := Nat.le_trans (dig_length_le (k := 1) (by omega)) (by omega)
 have hl1 : (dig (n / Nat.gcd n d)).length ≤ 1073741824 := Nat.le_trans (dig_length_mono (Nat.div_le_self _ _)) hl
 have hl2 : (dig (d / Nat.gcd n d)).length ≤ 1073741824 := Nat.le_trans (dig_length_mono (Nat.div_le_self _ _)) hld
 have HX := hid hx
 have HY := hid hy
 have HC := hid (fun W (hb : Below w.heap.size w W) => frac_common1 _ _ n d W (hx.kept hb) (hy.kept hb) hl hd2)
 have HL := hid hl
 have HLD := hid hld
 have HL1 := hid hl1
 have HL2 := hid hl2
 clear hx hy hl hld hl1 hl2
 generalize Nat.gcd n d = g at *
 have HO1 := hid (fun W v (hb : Below w.heap.size w W) (hv : Rd32 W v (dig g)) => frac_over1 _ v n g W (HX.out.kept hb) hv HL.out hg0 (.inl (by omega)))
 have HO2 := hid (fun W v (hb : Below w.heap.size w W) (hv : Rd32 W v (dig g)) => frac_over1 _ v d g W (HY.out.kept hb) hv HLD.out hg0 (.inl (by omega)))
 generalize (dig n).length = L at *
 generalize (dig d).length = L' at *
 generalize n / g = p at *
 generalize d / g = q at *
 go_enter Tryz.func179, Tryz.ntmps179
 go_wp2_with fail
 refine (HC.out _ (by repeat' (first | (with_reducible exact Below.refl _ _) | (with_reducible assumption) | (with_reducible refine below_drewN ?_) | (with_reducible refine Below.alloc ?_ ?_ _) | (with_reducible refine Below.drew ?_) | (with_reducible refine Below.setCell ?_ ?_ _) | (with_reducible refine Below.trans ?_ (Below.mono (by with_reducible assumption) ?_)) | go_size))).mono ?_
 rintro e w1 ⟨v1, rfl, hv1, hb1⟩
 have HV1 := hid hv1
 have HB1 := hid hb1
 have hz1 := hb1.size
 have k0 := cell_later hb1 (a := ⟨w.heap.size, 0, none⟩) (v := .bool s1) (by go_cell)
 have k1 := cell_later hb1 (a := ⟨w.heap.size, 1, none⟩) (v := .slice a L c) (by go_cell)
 have k2 := cell_later hb1 (a := ⟨w.heap.size + 1, 0, none⟩) (v := .bool false) (by go_cell)
 have k3 := cell_later hb1 (a := ⟨w.heap.size + 1, 1, none⟩) (v := .slice a' L' c') (by go_cell)
 have k4 := cell_later hb1 (a := ⟨w.heap.size + 1 + 1, 0, none⟩) (v := .bool false) (by go_cell)
 have k5 := cell_later hb1 (a := ⟨w.heap.size + 1 + 1, 1, none⟩) (v := .slice none 0 0) (by go_cell)
 have k6 := cell_later hb1 (a := ⟨w.heap.size + 1 + 1, 2, none⟩) (v := .bool false) (by go_cell)
 have k7 := cell_later hb1 (a := ⟨w.heap.size + 1 + 1, 3, none⟩) (v := .slice none 0 0) (by go_cell)
 have fk4 := frozen_later hb1 (a := ⟨w.heap.size + 1 + 1, 0, none⟩) (v := .bool false) (by go_cell) (by simp [go_sem])
 have fk5 := frozen_later hb1 (a := ⟨w.heap.size + 1 + 1, 1, none⟩) (v := .slice none 0 0) (by go_cell) (by simp [go_sem])
 have fk6 := frozen_later hb1 (a := ⟨w.heap.size + 1 + 1, 2, none⟩) (v := .bool false) (by go_cell) (by simp [go_sem])
 have fk7 := frozen_later hb1 (a := ⟨w.heap.size + 1 + 1, 3, none⟩) (v := .slice none 0 0) (by go_cell) (by simp [go_sem])
 have hA1 : Below w.heap.size w w1 := by repeat' (first | (with_reducible exact Below.refl _ _) | (with_reducible assumption) | (with_reducible refine below_drewN ?_) | (with_reducible refine Below.alloc ?_ ?_ _) | (with_reducible refine Below.drew ?_) | (with_reducible refine Below.setCell ?_ ?_ _) | (with_reducible refine Below.trans ?_ (Below.mono (by with_reducible assumption) ?_)) | go_size)
 have HA1 := hid hA1
 obtain ⟨ag, Lg, cg, rfl, _⟩ := HV1.out.len
 have HG := hid hv1.rd
 clear hv1 hb1 hA1
 simp at hz1
 go_wp2_with fail
 refine (HO1.out _ _ HA1.out HG.out).mono ?_
 rintro e w2 ⟨a2, c2, a3, c3, rfl, hr1, hr2, ho1, ho2, hb2⟩
 have HP := hid hr1
 have HPO := hid ho1
 have HB2 := hid hb2
 have hz2 := hb2.size
 have j0 := cell_later hb2 k0
 have j1 := cell_later hb2 k1
 have j2 := cell_later hb2 k2
 have j3 := cell_later hb2 k3
 have j4 := cell_later hb2 k4
 have j5 := cell_later hb2 k5
 have j6 := cell_later hb2 k6
 have j7 := cell_later hb2 k7
 have fj4 := frozen_later hb2 k4 fk4
 have fj5 := frozen_later hb2 k5 fk5
 have fj6 := frozen_later hb2 k6 fk6
 have fj7 := frozen_later hb2 k7 fk7
 have hA2 : Below w.heap.size w w2 := by have h := HA1.out; repeat' (first | (with_reducible exact Below.refl _ _) | (with_reducible assumption) | (with_reducible refine below_drewN ?_) | (with_reducible refine Below.alloc ?_ ?_ _) | (with_reducible refine Below.drew ?_) | (with_reducible refine Below.setCell ?_ ?_ _) | (with_reducible refine Below.trans ?_ (Below.mono (by with_reducible assumption) ?_)) | go_size)
 have HA2 := hid hA2
 clear hr1 hr2 ho1 ho2 hb2 hA2
 go_wp2_with fail
 refine (HO2.out _ _ HA2.out (HG.out.kept HB2.out)).mono ?_
 rintro e w3 ⟨a4, c4, a5, c5, rfl, hr1, hr2, ho1, ho2, hb3⟩
 have HQ := hid hr1
 have HQO := hid ho1
 have HB3 := hid hb3
 have hz3 := hb3.size
 have m0 := cell_later hb3 j0
 have m1 := cell_later hb3 j1
 have m2 := cell_later hb3 j2
 have m3 := cell_later hb3 j3
 have m4 := cell_later hb3 j4
 have m5 := cell_later hb3 j5
 have m6 := cell_later hb3 j6
 have m7 := cell_later hb3 j7
 have fm4 := frozen_later hb3 j4 fj4
 have fm5 := frozen_later hb3 j5 fj5
 have fm6 := frozen_later hb3 j6 fj6
 have fm7 := frozen_later hb3 j7 fj7
 clear hr1 hr2 ho1 ho2 hb3
 go_wp2_with fail
 refine (frac_signed _ _ p _ (HP.out.kept HB3.out) HL1.out).mono ?_
 rintro e w4 ⟨a6, c6, rfl, hr1, ho1, hb4⟩
 have HR1 := hid hr1
 have HRO1 := hid (fun R hR => ho1 R hR (fun u hu => by cases hu))
 have HB4 := hid hb4
 have hz4 := hb4.size
 have n0 := cell_later hb4 m0
 have n1 := cell_later hb4 m1
 have n2 := cell_later hb4 m2
 have n3 := cell_later hb4 m3
 have n4 := cell_later hb4 m4
 have n5 := cell_later hb4 m5
 have n6 := cell_later hb4 m6
 have n7 := cell_later hb4 m7
 have fn4 := frozen_later hb4 m4 fm4
 have fn5 := frozen_later hb4 m5 fm5
 have fn6 := frozen_later hb4 m6 fm6
 have fn7 := frozen_later hb4 m7 fm7
 clear hr1 ho1 hb4
 go_wp2_with fail
 refine (frac_signed _ _ q _ (HQ.out.kept HB4.out) HL2.out).mono ?_
 rintro e w5 ⟨a7, c7, rfl, hr1, ho1, hb5⟩
 have HR2 := hid hr1
 have HRO2 := hid (fun R hR => ho1 R hR (fun u hu => by cases hu))
 have HB5 := hid hb5
 have hz5 := hb5.size
 have o0 := cell_later hb5 n0
 have o1 := cell_later hb5 n1
 have o2 := cell_later hb5 n2
 have o3 := cell_later hb5 n3
 have o4 := cell_later hb5 n4
 have o5 := cell_later hb5 n5
 have o6 := cell_later hb5 n6
 have o7 := cell_later hb5 n7
 have fo4 := frozen_later hb5 n4 fn4
 have fo5 := frozen_later hb5 n5 fn5
 have fo6 := frozen_later hb5 n6 fn6
 have fo7 := frozen_later hb5 n7 fn7
 clear hr1 ho1 hb5
 go_wp2
 refine bodyPost_ret (by simp [results, Tryz.results179, go_sem, o4, o5, o6, o7]; rfl) rfl ?_
 have hN : NewF (w.heap.size + 1 + 1 + 1) w5 a6 c6 a7 c7 p q := ⟨HR1.out.kept HB5.out, HR2.out, fun R hR => HRO1.out R (by omega), fun R hR => HRO2.out R (by omega)⟩
 exact ⟨a6, c6, a7, c7, by first | rfl | simp, ((((hN.setCell (by simp)).setCell (by simp)).setCell (by simp)).setCell (by simp)).mono (by omega), by have h2 := HA2.out; have h3 := HB3.out; have h4 := HB4.out; have h5 := HB5.out; repeat' (first | (with_reducible exact Below.refl _ _) | (with_reducible assumption) | (with_reducible refine below_drewN ?_) | (with_reducible refine Below.alloc ?_ ?_ _) | (with_reducible refine Below.drew ?_) | (with_reducible refine Below.setCell ?_ ?_ _) | (with_reducible refine Below.trans ?_ (Below.mono (by with_reducible assumption) ?_)) | go_size)⟩
set_option maxRecDepth 100000 in
set_option maxHeartbeats 2000000 in
theorem frac_Make1 (s1 : Bool) (a a' : Option Addr) (c c' : Nat) (n d : Nat) (w : World) (hx : Rd32 w (.slice a (dig n).length c) (dig n)) (hy : Rd32 w (.slice a' (dig d).length c') (dig d)) (hok : okBig s1 (dig n) = true) (hl : (dig n).length ≤ 1073741824) (hd : 0 < d) (hd2 : d < 4294967296) :
  Calls Tryz.prog 145 #[.agg #[.bool s1, .slice a (dig n).length c], .agg #[.bool false, .slice a' (dig d).length c']] w (GivesFE w (s1 && decide (0 < n / Nat.gcd n d)) (n / Nat.gcd n d) (d / Nat.gcd n d) (.int .i64 0)) := by
 have hok2 : okBig false (dig d) = true := okBig_false d (Nat.le_trans (dig_length_le (k := 1) (by omega)) (by omega))
 have hb2 := fun W g hb hg h0 h1 h2 h3 => frac_bigs2 g s1 false (dig n) (dig d) a a' c c' W hg h0 h1 h2 h3 (hx.kept hb) (hy.kept hb)
 rw [hok, hok2] at hb2
 have HBG := hid hb2
 have HRD := hid (fun W (hb : Below w.heap.size w W) => frac_reduced1 s1 a a' c c' n d W (hx.kept hb) (hy.kept hb) hl hd hd2)
 have hLp := dig_length_pos.2 hd
 clear hx hy hb2 hok hok2 hl
 generalize (dig n).length = L at *
 generalize (dig d).length = L' at *
 generalize n / Nat.gcd n d = p at *
 generalize d / Nat.gcd n d = q at *
 have hL0 : ((L' : Int) == 0) = false := by simp; omega
 go_enter Tryz.func145, Tryz.ntmps145
 go_wp2_with fail
 refine (HBG.out _ _ (by repeat' (first | (with_reducible exact Below.refl _ _) | (with_reducible assumption) | (with_reducible refine below_drewN ?_) | (with_reducible refine Below.alloc ?_ ?_ _) | (with_reducible refine Below.drew ?_) | (with_reducible refine Below.setCell ?_ ?_ _) | (with_reducible refine Below.trans ?_ (Below.mono (by with_reducible assumption) ?_)) | go_size)) (by simp) (by go_cell) (by go_cell) (by go_cell) (by go_cell)).mono ?_
 rintro e w1 ⟨rfl, hb1⟩
 have HB1 := hid hb1
 have hz1 := hb1.size
 have k0 := cell_later hb1 (a := ⟨w.heap.size, 0, none⟩) (v := .bool s1) (by go_cell)
 have k1 := cell_later hb1 (a := ⟨w.heap.size, 1, none⟩) (v := .slice a L c) (by go_cell)
 have k2 := cell_later hb1 (a := ⟨w.heap.size + 1, 0, none⟩) (v := .bool false) (by go_cell)
 have k3 := cell_later hb1 (a := ⟨w.heap.size + 1, 1, none⟩) (v := .slice a' L' c') (by go_cell)
 have k4 := cell_later hb1 (a := ⟨w.heap.size + 1 + 1, 0, none⟩) (v := .bool false) (by go_cell)
 have k5 := cell_later hb1 (a := ⟨w.heap.size + 1 + 1, 1, none⟩) (v := .slice none 0 0) (by go_cell)
 have k6 := cell_later hb1 (a := ⟨w.heap.size + 1 + 1, 2, none⟩) (v := .bool false) (by go_cell)
 have k7 := cell_later hb1 (a := ⟨w.heap.size + 1 + 1, 3, none⟩) (v := .slice none 0 0) (by go_cell)
 have fk4 := frozen_later hb1 (a := ⟨w.heap.size + 1 + 1, 0, none⟩) (v := .bool false) (by go_cell) (by simp [go_sem])
 have fk5 := frozen_later hb1 (a := ⟨w.heap.size + 1 + 1, 1, none⟩) (v := .slice none 0 0) (by go_cell) (by simp [go_sem])
 have fk6 := frozen_later hb1 (a := ⟨w.heap.size + 1 + 1, 2, none⟩) (v := .bool false) (by go_cell) (by simp [go_sem])
 have fk7 := frozen_later hb1 (a := ⟨w.heap.size + 1 + 1, 3, none⟩) (v := .slice none 0 0) (by go_cell) (by simp [go_sem])
 have hA1 : Below w.heap.size w w1 := by repeat' (first | (with_reducible exact Below.refl _ _) | (with_reducible assumption) | (with_reducible refine below_drewN ?_) | (with_reducible refine Below.alloc ?_ ?_ _) | (with_reducible refine Below.drew ?_) | (with_reducible refine Below.setCell ?_ ?_ _) | (with_reducible refine Below.trans ?_ (Below.mono (by with_reducible assumption) ?_)) | go_size)
 have HA1 := hid hA1
 clear hb1 hA1
 simp at hz1
 go_wp2_with fail
 refine (HRD.out _ HA1.out).mono ?_
 rintro e w2 ⟨a2, c2, a3, c3, rfl, hN, hb2⟩
 have HN := hid hN
 have HB2 := hid hb2
 have hz2 := hb2.size
 have j0 := cell_later hb2 k0
 have j1 := cell_later hb2 k1
 have j2 := cell_later hb2 k2
 have j3 := cell_later hb2 k3
 have j4 := cell_later hb2 k4
 have j5 := cell_later hb2 k5
 have j6 := cell_later hb2 k6
 have j7 := cell_later hb2 k7
 have fj4 := frozen_later hb2 k4 fk4
 have fj5 := frozen_later hb2 k5 fk5
 have fj6 := frozen_later hb2 k6 fk6
 have fj7 := frozen_later hb2 k7 fk7
 clear hN hb2
 go_wp2
 refine bodyPost_ret (by simp [results, Tryz.results145, go_sem, j4, j5, j6, j7]; rfl) rfl ?_
 exact ⟨a2, c2, a3, c3, by first | rfl | simp, ((((HN.out.setCell (by simp; omega)).setCell (by simp; omega)).setCell (by simp; omega)).setCell (by simp; omega)).mono (by omega), by have h2 := HA1.out; have h3 := HB2.out; repeat' (first | (with_reducible exact Below.refl _ _) | (with_reducible assumption) | (with_reducible refine below_drewN ?_) | (with_reducible refine Below.alloc ?_ ?_ _) | (with_reducible refine Below.drew ?_) | (with_reducible refine Below.setCell ?_ ?_ _) | (with_reducible refine Below.trans ?_ (Below.mono (by with_reducible assumption) ?_)) | go_size)⟩
end Go.Proofs.YtikiimlmoalbcaaGreatDoor.Fr

namespace Go.Proofs.YtikiimlmoalbcaaGreatDoor.Fr
open Go.RowKit
set_option maxRecDepth 100000 in
set_option maxHeartbeats 2000000 in
theorem frac_Of1 (n d : Nat) (w : World) (hn : n < 9223372036854775808) (hd : 0 < d) (hd2 : d < 4294967296) :
  Calls Tryz.prog 92 #[.int .i64 (n : Int), .int .i64 (d : Int)] w (GivesFE w false (n / Nat.gcd n d) (d / Nat.gcd n d) (.int .i64 0)) := by
 have hl2 := dig_length_64 (n := n) (by omega)
 have hok : okBig false (dig n) = true := okBig_false n (by omega)
 have HM := hid (fun W a a' c c' hx hy => frac_Make1 false a a' c c' n d W hx hy hok (Nat.le_trans hl2 (by omega)) hd hd2)
 clear hok hl2
 generalize n / Nat.gcd n d = p at *
 generalize d / Nat.gcd n d = q at *
 go_enter Tryz.func92, Tryz.ntmps92
 go_wp2_with fail
 refine (frac_FromInt n _ hn).mono ?_
 rintro e w1 ⟨a1, c1, rfl, hr1, ho1, hb1⟩
 have HR1 := hid hr1
 have HB1 := hid hb1
 have hz1 := hb1.size
 have k0 := cell_later hb1 (a := ⟨w.heap.size, 0, none⟩) (v := .bool false) (by go_cell)
 have k1 := cell_later hb1 (a := ⟨w.heap.size, 1, none⟩) (v := .slice none 0 0) (by go_cell)
 have k2 := cell_later hb1 (a := ⟨w.heap.size, 2, none⟩) (v := .bool false) (by go_cell)
 have k3 := cell_later hb1 (a := ⟨w.heap.size, 3, none⟩) (v := .slice none 0 0) (by go_cell)
 have fk0 := frozen_later hb1 (a := ⟨w.heap.size, 0, none⟩) (v := .bool false) (by go_cell) (by simp [go_sem])
 have fk1 := frozen_later hb1 (a := ⟨w.heap.size, 1, none⟩) (v := .slice none 0 0) (by go_cell) (by simp [go_sem])
 have fk2 := frozen_later hb1 (a := ⟨w.heap.size, 2, none⟩) (v := .bool false) (by go_cell) (by simp [go_sem])
 have fk3 := frozen_later hb1 (a := ⟨w.heap.size, 3, none⟩) (v := .slice none 0 0) (by go_cell) (by simp [go_sem])
 have hA1 : Below w.heap.size w w1 := by repeat' (first | (with_reducible exact Below.refl _ _) | (with_reducible assumption) | (with_reducible refine below_drewN ?_) | (with_reducible refine Below.alloc ?_ ?_ _) | (with_reducible refine Below.drew ?_) | (with_reducible refine Below.setCell ?_ ?_ _) | (with_reducible refine Below.trans ?_ (Below.mono (by with_reducible assumption) ?_)) | go_size)
 have HA1 := hid hA1
 clear hb1 hA1 hr1 ho1
 simp at hz1
 go_wp2_with fail
 refine (frac_FromInt d _ (by omega)).mono ?_
 rintro e w2 ⟨a2, c2, rfl, hr1, ho1, hb2⟩
 have HR2 := hid hr1
 have HB2 := hid hb2
 have hz2 := hb2.size
 have j0 := cell_later hb2 k0
 have j1 := cell_later hb2 k1
 have j2 := cell_later hb2 k2
 have j3 := cell_later hb2 k3
 have fj0 := frozen_later hb2 k0 fk0
 have fj1 := frozen_later hb2 k1 fk1
 have fj2 := frozen_later hb2 k2 fk2
 have fj3 := frozen_later hb2 k3 fk3
 clear hr1 ho1 hb2
 go_wp2_with fail
 refine (HM.out _ _ _ _ _ (HR1.out.kept HB2.out) HR2.out).mono ?_
 rintro e w3 ⟨a3, c3, a4, c4, rfl, hN, hb3⟩
 have HN := hid hN
 have HB3 := hid hb3
 have hz3 := hb3.size
 have m0 := cell_later hb3 j0
 have m1 := cell_later hb3 j1
 have m2 := cell_later hb3 j2
 have m3 := cell_later hb3 j3
 have fm0 := frozen_later hb3 j0 fj0
 have fm1 := frozen_later hb3 j1 fj1
 have fm2 := frozen_later hb3 j2 fj2
 have fm3 := frozen_later hb3 j3 fj3
 clear hN hb3
 go_wp2
 refine bodyPost_ret (by simp [results, Tryz.results92, go_sem, m0, m1, m2, m3]; rfl) rfl ?_
 exact ⟨a3, c3, a4, c4, by first | rfl | simp, ((((HN.out.setCell (by simp; omega)).setCell (by simp; omega)).setCell (by simp; omega)).setCell (by simp; omega)).mono (by omega), by have h1 := HA1.out; have h2 := HB2.out; have h3 := HB3.out; repeat' (first | (with_reducible exact Below.refl _ _) | (with_reducible assumption) | (with_reducible refine below_drewN ?_) | (with_reducible refine Below.alloc ?_ ?_ _) | (with_reducible refine Below.drew ?_) | (with_reducible refine Below.setCell ?_ ?_ _) | (with_reducible refine Below.trans ?_ (Below.mono (by with_reducible assumption) ?_)) | go_size)⟩
set_option maxHeartbeats 400000 in
theorem cont_Valid (k : Int) (w : World) : Calls Tryz.prog 48 #[.int .i64 k] w (fun e w' => e = .returned (.bool (decide (1 ≤ k ∧ k ≤ 3))) ∧ w = w') := by
  by_cases h1 : 1 ≤ k
  · go_enter Tryz.func48, Tryz.ntmps48
    go_wp2
    go_ret
    exact ⟨ret_bool (by simp [h1]), rfl⟩
  · have h1' : decide (1 ≤ k) = false := by simpa using h1
    go_enter Tryz.func48, Tryz.ntmps48
    go_wp2
    go_ret
    exact ⟨ret_bool (by first | rfl | simp [h1]), rfl⟩
def denOf (kind common query size : Nat) : Nat := if kind = 1 then query else if kind = 2 then size else query + size - common
set_option maxRecDepth 100000 in
set_option maxHeartbeats 2000000 in
theorem cont_Score (kind common query size : Nat) (w : World) (hk : 1 ≤ kind) (hk3 : kind ≤ 3) (hc : common ≤ query) (hc2 : common ≤ size) (hq : query ≤ 2147483648) (hs : size ≤ 2147483648) (hd : 0 < denOf kind common query size) (hdl : denOf kind common query size < 4294967296) :
  Calls Tryz.prog 42 #[.int .i64 (kind : Int), .int .i64 (common : Int), .int .i64 (query : Int), .int .i64 (size : Int)] w
   (GivesFE w false (common / Nat.gcd common (denOf kind common query size)) (denOf kind common query size / Nat.gcd common (denOf kind common query size)) (.bool true)) := by
 have hV := cont_Valid (kind : Int)
 rw [show decide ((1 : Int) ≤ (kind : Int) ∧ (kind : Int) ≤ 3) = true from by simp; omega] at hV
 have HV := hid hV
 have HOF := hid (fun W => frac_Of1 common (denOf kind common query size) W (by omega) hd hdl)
 have hden : kind = 1 ∧ denOf kind common query size = query ∨ kind = 2 ∧ denOf kind common query size = size ∨ kind = 3 ∧ denOf kind common query size = query + size - common := by
  unfold denOf; rcases (show kind = 1 ∨ kind = 2 ∨ kind = 3 by omega) with h | h | h <;> subst h <;> simp
 clear hV
 generalize denOf kind common query size = d at *
 generalize common / Nat.gcd common d = p at *
 generalize d / Nat.gcd common d = q at *
 rcases Nat.lt_trichotomy query size with hqs | hqs | hqs
 case' inr.inl => subst hqs
 all_goals
  rcases hden with ⟨rfl, hde⟩ | ⟨rfl, hde⟩ | ⟨rfl, hde⟩
  all_goals
   have HDE := hid hde
   clear hde
   go_enter Tryz.func42, Tryz.ntmps42
   go_wp2_with fail
   refine (HV.out _).mono ?_
   rintro e w' ⟨rfl, rfl⟩
   go_wp2_with fail
   first
    | rw [show ((query : Int) + (size : Int) - (common : Int)) = (d : Int) from by have := HDE.out; omega]
    | rw [show ((query : Int) + (query : Int) - (common : Int)) = (d : Int) from by have := HDE.out; omega]
    | rw [← HDE.out]
   refine (HOF.out _).mono ?_
   rintro e w3 ⟨a3, c3, a4, c4, rfl, hN, hb3⟩
   have HN := hid hN
   have HB3 := hid hb3
   have hz3 := hb3.size
   have m0 := cell_later hb3 (a := ⟨w.heap.size, 0, none⟩) (v := .bool false) (by go_cell)
   have m1 := cell_later hb3 (a := ⟨w.heap.size, 1, none⟩) (v := .slice none 0 0) (by go_cell)
   have m2 := cell_later hb3 (a := ⟨w.heap.size, 2, none⟩) (v := .bool false) (by go_cell)
   have m3 := cell_later hb3 (a := ⟨w.heap.size, 3, none⟩) (v := .slice none 0 0) (by go_cell)
   have fm0 := frozen_later hb3 (a := ⟨w.heap.size, 0, none⟩) (v := .bool false) (by go_cell) (by simp [go_sem])
   have fm1 := frozen_later hb3 (a := ⟨w.heap.size, 1, none⟩) (v := .slice none 0 0) (by go_cell) (by simp [go_sem])
   have fm2 := frozen_later hb3 (a := ⟨w.heap.size, 2, none⟩) (v := .bool false) (by go_cell) (by simp [go_sem])
   have fm3 := frozen_later hb3 (a := ⟨w.heap.size, 3, none⟩) (v := .slice none 0 0) (by go_cell) (by simp [go_sem])
   clear hN hb3
   simp at hz3
   have hlt : w.heap.size < w3.heap.size := by omega
   have hne : w.heap.size ≠ w3.heap.size := by omega
   go_wp2
   refine bodyPost_ret (by simp [results, Tryz.results42, go_sem, m0, m1, m2, m3, hne, hlt]; rfl) rfl ?_
   exact ⟨a3, c3, a4, c4, by first | rfl | simp, (((((HN.out.setCell (by simp; omega)).setCell (by simp; omega)).setCell (by simp; omega)).setCell (by simp; omega)).kept ((Below.refl _ _).alloc (Nat.le_refl _) _)).mono (by simp; omega), by have h3 := HB3.out; repeat' (first | (with_reducible exact Below.refl _ _) | (with_reducible assumption) | (with_reducible refine below_drewN ?_) | (with_reducible refine Below.alloc ?_ ?_ _) | (with_reducible refine Below.drew ?_) | (with_reducible refine Below.setCell ?_ ?_ _) | (with_reducible refine Below.trans ?_ (Below.mono (by with_reducible assumption) ?_)) | go_size)⟩
end Go.Proofs.YtikiimlmoalbcaaGreatDoor.Fr

namespace Go.Proofs.YtikiimlmoalbcaaGreatDoor.Fr
open Go.RowKit
def AddRel (w : World) (xs ys : List Nat) (o cv i : Value) (wr : World) (k c : Nat) : Prop :=
  ∃ zs : List Nat, zs.length = k ∧ Digs zs ∧ val zs + 4294967296 ^ k * c = vt xs k + vt ys k ∧ wr.ownsRow w.heap.size 132 1 o k (zs.map U32) ∧ Below w.heap.size w wr
set_option maxHeartbeats 1000000 in
theorem ref_add (u v : Value) (xs ys : List Nat) (w : World) (hx : Rd32 w u xs) (hy : Rd32 w v ys) (hlx : xs.length ≤ 1073741824) (hly : ys.length ≤ 1073741824) :
  Calls Tryz.prog 122 #[u, v] w (GivesL w (val xs + val ys)) := by
 obtain ⟨a, c, rfl, hc, hm, hxr, hxc⟩ := hx
 obtain ⟨a', c', rfl, hc', hm', hyr, hyc⟩ := hy
 unfold maxLen at hm hm'
 obtain ⟨i0, hi, hz0, hz1, hz2⟩ := info_parts info_u32
 obtain ⟨n, hn⟩ : ∃ n, n = xs.length := ⟨_, rfl⟩
 obtain ⟨n', hn'⟩ : ∃ n, n = ys.length := ⟨_, rfl⟩
 rw [← hn] at hc hxc hlx ⊢
 rw [← hn'] at hc' hyc hly ⊢
 have HN := hid hn
 have HN' := hid hn'
 have HX := hid hxr
 have HY := hid hyr
 have HXC := hid hxc
 have HYC := hid hyc
 clear hn hn' hxr hyr hxc hyc
 go_enter Tryz.func122, Tryz.ntmps122
 go_wp2
 go_loopw [5, 6, 7] (fun o cv i wr => ∃ k c : Nat, (k ≤ n ∨ k ≤ n') ∧ i = .int .i64 k ∧ cv = .int .u64 c ∧ c ≤ 1 ∧ AddRel w xs ys o cv i wr k c) (fun _ _ i _ => n + n' - (intOf i).toNat)
 case atStart => exact ⟨0, 0, by omega, rfl, rfl, by omega, [], rfl, Digs.nil, rfl, World.ownsRow_nil _ _ _ _, Below.refl _ _⟩
 case round =>
  obtain ⟨k, cy, hk, rfl, rfl, hcy, zs, hzl, hzd, hv, hown, hbl⟩ := hrel
  have HV := hid hv
  have HL := hid hzl
  have HD := hid hzd
  have hxk := HX.out k
  have hyk := HY.out k
  have HB := hid hbl
  have hbs := hbl.size
  clear hv hzl hzd hbl
  by_cases h1 : k < n
  ·obtain ⟨b, o, rfl, hb, hcell⟩ := HXC.out (by omega)
   have hcx := (HB.out.cell (p := ⟨b, o + k, none⟩) hb).trans (hcell k h1)
   clear hcell
   have hst := hid (add_step (xs := xs) (ys := ys) HL.out HV.out)
   by_cases h2 : k < n'
   ·obtain ⟨b', o', rfl, hb', hcell⟩ := HYC.out (by omega)
    have hcy' := (HB.out.cell (p := ⟨b', o' + k, none⟩) hb').trans (hcell k h2)
    clear hcell
    generalize xs.getD k 0 = x at *
    generalize ys.getD k 0 = y at *
    go_wp2_with (at_builtin; refine wpList_append_own _ rfl _ _ 41 rfl (w.heap.size) 132 i0 (.int .u32 0) 1 4 Tryz.underlying41 hi hz0 hz1 hz2 rfl (by decide) _ _ _ rfl (hown.alloc _) ⟨_, 0, none⟩ 1 1 [(.int .u32 (((cy : Int) + x + y) % 4294967296))] rfl rfl (cell_one_new _ _ _) (by intro u hu; simp at hu; subst hu; rfl) (by unfold maxLen; omega) (by omega) (by simp; omega) ?_)
    intro v' w1 hown' hgrow _
    have hbl' := hid (push_below HB.out (by omega) hown hgrow)
    clear hown hgrow hcx hcy'
    rw [show ((cy : Int) + x + y) % 4294967296 = ((cy + x + y) % 4294967296 : Nat) from by omega, map_snoc] at hown'
    go_wp2
    go_roundw
    case rel => exact ⟨k + 1, (cy + x + y) / 4294967296, by omega, by go_num, by go_num, by omega, zs ++ [(cy + x + y) % 4294967296], by simp [HL.out], HD.out.append (Digs.cons (by omega) Digs.nil), hst.out, hown', hbl'.out⟩
    case measure => simp [intOf]; omega
   ·have h0 : ys.getD k 0 = 0 := getD_beyond (by have := HN'.out; omega)
    have hst2 := hst.out
    rw [h0, Nat.add_zero] at hst2
    clear hst h0 hyk
    have hst := hid hst2
    clear hst2
    generalize xs.getD k 0 = x at *
    go_wp2_with (at_builtin; refine wpList_append_own _ rfl _ _ 41 rfl (w.heap.size) 132 i0 (.int .u32 0) 1 4 Tryz.underlying41 hi hz0 hz1 hz2 rfl (by decide) _ _ _ rfl (hown.alloc _) ⟨_, 0, none⟩ 1 1 [(.int .u32 (((cy : Int) + x) % 4294967296))] rfl rfl (cell_one_new _ _ _) (by intro u hu; simp at hu; subst hu; rfl) (by unfold maxLen; omega) (by omega) (by simp; omega) ?_)
    intro v' w1 hown' hgrow _
    have hbl' := hid (push_below HB.out (by omega) hown hgrow)
    clear hown hgrow hcx
    rw [show ((cy : Int) + x) % 4294967296 = ((cy + x) % 4294967296 : Nat) from by omega, map_snoc] at hown'
    go_wp2
    go_roundw
    case rel => exact ⟨k + 1, (cy + x) / 4294967296, by omega, by go_num, by go_num, by omega, zs ++ [(cy + x) % 4294967296], by simp [HL.out], HD.out.append (Digs.cons (by omega) Digs.nil), hst.out, hown', hbl'.out⟩
    case measure => simp [intOf]; omega
  ·by_cases h2 : k < n'
   ·obtain ⟨b, o, rfl, hb, hcell⟩ := HYC.out (by omega)
    have hcx := (HB.out.cell (p := ⟨b, o + k, none⟩) hb).trans (hcell k h2)
    clear hcell
    have h0 : xs.getD k 0 = 0 := getD_beyond (by have := HN.out; omega)
    have hst2 := add_step (xs := xs) (ys := ys) HL.out HV.out
    rw [h0, Nat.add_zero] at hst2
    clear h0 hxk
    have hst := hid hst2
    clear hst2
    generalize ys.getD k 0 = x at *
    go_wp2_with (at_builtin; refine wpList_append_own _ rfl _ _ 41 rfl (w.heap.size) 132 i0 (.int .u32 0) 1 4 Tryz.underlying41 hi hz0 hz1 hz2 rfl (by decide) _ _ _ rfl (hown.alloc _) ⟨_, 0, none⟩ 1 1 [(.int .u32 (((cy : Int) + x) % 4294967296))] rfl rfl (cell_one_new _ _ _) (by intro u hu; simp at hu; subst hu; rfl) (by unfold maxLen; omega) (by omega) (by simp; omega) ?_)
    intro v' w1 hown' hgrow _
    have hbl' := hid (push_below HB.out (by omega) hown hgrow)
    clear hown hgrow hcx
    rw [show ((cy : Int) + x) % 4294967296 = ((cy + x) % 4294967296 : Nat) from by omega, map_snoc] at hown'
    go_wp2
    go_roundw
    case rel => exact ⟨k + 1, (cy + x) / 4294967296, by omega, by go_num, by go_num, by omega, zs ++ [(cy + x) % 4294967296], by simp [HL.out], HD.out.append (Digs.cons (by omega) Digs.nil), hst.out, hown', hbl'.out⟩
    case measure => simp [intOf]; omega
   ·go_wp2_with (at_builtin; refine wpList_append_own _ rfl _ _ 41 rfl (w.heap.size) 132 i0 (.int .u32 0) 1 4 Tryz.underlying41 hi hz0 hz1 hz2 rfl (by decide) _ _ _ rfl (hown.alloc _) ⟨_, 0, none⟩ 1 1 [(.int .u32 (cy : Int))] rfl rfl (cell_one_new _ _ _) (by intro u hu; simp at hu; subst hu; rfl) (by unfold maxLen; omega) (by omega) (by simp; omega) ?_)
    intro v' w1 hown' hgrow _
    have hbl' := hid (push_below HB.out (by omega) hown hgrow)
    clear hown hgrow
    rw [map_snoc] at hown'
    go_wp2
    go_ret
    refine givesL_of hown' (HD.out.append (Digs.cons (by omega) Digs.nil)) ?_ hbl'.out
    rw [val_snoc, HL.out, HV.out, vt_all xs k (by have := HN.out; omega), vt_all ys k (by have := HN'.out; omega)]
set_option maxHeartbeats 1000000 in
theorem ref_sub (u v : Value) (xs ys : List Nat) (w : World) (hx : Rd32 w u xs) (hy : Rd32 w v ys) (hlx : xs.length ≤ 1073741824) (hle : val ys ≤ val xs) (hll : ys.length ≤ xs.length) :
  Calls Tryz.prog 123 #[u, v] w (GivesD w (val xs - val ys)) := by
 obtain ⟨a, c, rfl, hc, hm, hxr, hxc⟩ := hx
 obtain ⟨a', c', rfl, hc', hm', hyr, hyc⟩ := hy
 unfold maxLen at hm hm'
 obtain ⟨i0, hi, hz0, hz1, hz2⟩ := info_parts info_u32
 obtain ⟨n, hn⟩ : ∃ n, n = xs.length := ⟨_, rfl⟩
 obtain ⟨n', hn'⟩ : ∃ n, n = ys.length := ⟨_, rfl⟩
 rw [← hn] at hc hxc hlx hll ⊢
 rw [← hn'] at hc' hyc hll ⊢
 have HN := hid hn
 have HN' := hid hn'
 have HX := hid hxr
 have HY := hid hyr
 have HXC := hid hxc
 have HYC := hid hyc
 have HLE := hid hle
 clear hn hn' hxr hyr hxc hyc hle
 go_enter Tryz.func123, Tryz.ntmps123
 go_wp2
 go_loopw [5, 6, 7] (fun o cv i wr => ∃ k q : Nat, k ≤ n ∧ i = .int .i64 k ∧ cv = .int .i64 (-(q : Int)) ∧ q ≤ 1 ∧ ∃ zs : List Nat, zs.length = k ∧ Digs zs ∧ val zs + vt ys k = vt xs k + 4294967296 ^ k * q ∧ wr.ownsRow w.heap.size 132 1 o k (zs.map U32) ∧ Below w.heap.size w wr) (fun _ _ i _ => n - (intOf i).toNat)
 case atStart => exact ⟨0, 0, by omega, rfl, rfl, by omega, [], rfl, Digs.nil, rfl, World.ownsRow_nil _ _ _ _, Below.refl _ _⟩
 case round =>
  obtain ⟨k, q, hk, rfl, rfl, hq, zs, hzl, hzd, hv, hown, hbl⟩ := hrel
  have HV := hid hv
  have HL := hid hzl
  have HD := hid hzd
  have hxk := HX.out k
  have hyk := HY.out k
  have HB := hid hbl
  have hbs := hbl.size
  clear hv hzl hzd hbl
  by_cases h1 : k < n
  ·obtain ⟨b, o, rfl, hb, hcell⟩ := HXC.out (by omega)
   have hcx := (HB.out.cell (p := ⟨b, o + k, none⟩) hb).trans (hcell k h1)
   clear hcell
   by_cases h2 : k < n'
   ·obtain ⟨b', o', rfl, hb', hcell⟩ := HYC.out (by omega)
    have hcy' := (HB.out.cell (p := ⟨b', o' + k, none⟩) hb').trans (hcell k h2)
    clear hcell
    have hdig := sub_digit (xs.getD k 0) (ys.getD k 0) q hxk hyk hq
    obtain ⟨d, q', hd, hq', he, hd1, hd2⟩ := hdig
    have hst := hid (sub_step (xs := xs) (ys := ys) HL.out HV.out he)
    have HD1 := hid hd1
    have HD2 := hid hd2
    clear he hd1 hd2
    generalize xs.getD k 0 = x at *
    generalize ys.getD k 0 = y at *
    go_wp2_with (at_builtin; refine wpList_append_own _ rfl _ _ 41 rfl (w.heap.size) 132 i0 (.int .u32 0) 1 4 Tryz.underlying41 hi hz0 hz1 hz2 rfl (by decide) _ _ _ rfl (hown.alloc _) ⟨_, 0, none⟩ 1 1 [(.int .u32 ((-(q : Int) + x - y) % 4294967296))] rfl rfl (cell_one_new _ _ _) (by intro u hu; simp at hu; subst hu; rfl) (by unfold maxLen; omega) (by omega) (by simp; omega) ?_)
    intro v' w1 hown' hgrow _
    have hbl' := hid (push_below HB.out (by omega) hown hgrow)
    clear hown hgrow hcx
    rw [HD1.out, map_snoc] at hown'
    go_wp2
    rw [HD2.out]
    go_roundw
    case rel => exact ⟨k + 1, q', by omega, by go_num, rfl, by omega, zs ++ [d], by simp [HL.out], HD.out.append (Digs.cons (by omega) Digs.nil), hst.out, hown', hbl'.out⟩
    case measure => simp [intOf]; omega
   ·have h0 : ys.getD k 0 = 0 := getD_beyond (by have := HN'.out; omega)
    obtain ⟨d, q', hd, hq', he, hd1, hd2⟩ := sub_digit (xs.getD k 0) 0 q hxk (by omega) hq
    have hst := hid (sub_step (xs := xs) (ys := ys) HL.out HV.out (d := d) (q' := q') (by rw [h0]; exact he))
    rw [show (-(q : Int) + (xs.getD k 0 : Nat) - (0 : Nat)) = -(q : Int) + (xs.getD k 0 : Nat) from by omega] at hd1 hd2
    have HD1 := hid hd1
    have HD2 := hid hd2
    clear he hd1 hd2 h0 hyk
    generalize xs.getD k 0 = x at *
    go_wp2_with (at_builtin; refine wpList_append_own _ rfl _ _ 41 rfl (w.heap.size) 132 i0 (.int .u32 0) 1 4 Tryz.underlying41 hi hz0 hz1 hz2 rfl (by decide) _ _ _ rfl (hown.alloc _) ⟨_, 0, none⟩ 1 1 [(.int .u32 ((-(q : Int) + x) % 4294967296))] rfl rfl (cell_one_new _ _ _) (by intro u hu; simp at hu; subst hu; rfl) (by unfold maxLen; omega) (by omega) (by simp; omega) ?_)
    intro v' w1 hown' hgrow _
    have hbl' := hid (push_below HB.out (by omega) hown hgrow)
    clear hown hgrow hcx
    rw [HD1.out, map_snoc] at hown'
    go_wp2
    rw [HD2.out]
    go_roundw
    case rel => exact ⟨k + 1, q', by omega, by go_num, rfl, by omega, zs ++ [d], by simp [HL.out], HD.out.append (Digs.cons (by omega) Digs.nil), hst.out, hown', hbl'.out⟩
    case measure => simp [intOf]; omega
  ·have hfin : val zs = val xs - val ys := by
    have h1' := HV.out
    rw [vt_all xs k (by have := HN.out; omega), vt_all ys k (by have := HN'.out; omega)] at h1'
    exact sub_done HL.out HD.out h1' HLE.out hq
   have HF := hid hfin
   clear hfin
   obtain ⟨hr1, hr2, _, ra, rc, rfl⟩ := rd_of_owns hown HD.out
   have HR1 := hid hr1
   have HR2 := hid hr2
   clear hr1 hr2 hown
   go_wp2_with fail
   refine (ref_trim _ _ _ HR1.out).mono ?_
   rintro e w' ⟨a2, c2, rfl, hv2, ho2, k2, rfl⟩
   rw [HF.out] at hv2 ho2
   rw [HF.out]
   have HV2 := hid (hv2 _ HR1.out)
   have HO2 := hid ho2
   clear hv2 ho2
   go_wp2
   go_ret
   exact ⟨_, _, rfl, HV2.out, fun R hR => HO2.out R (HR2.out R hR), below_drewN HB.out⟩
end Go.Proofs.YtikiimlmoalbcaaGreatDoor.Fr
