/- Contracts of package fraction: reduced, Make, Of, of numbers of one digit. Contracts of fraction.Of (small numbers), containment.Valid and containment.Score. Contract of fraction's product of words. Words for memory: a slice that is read, what a call keeps. No program in sight. -/
import Derived.Test.YtaajpliifdlokaaGreatDoorGFrae
import Derived.WalkKit
import Derived.WalkSpells
import Derived.WalkLawsBesides
import Derived.WalkSmall
import Derived.BigRegion
import Derived.BigQuiet
import Derived.Deep.QuietTactic
import Derived.Deep.RegionHeld3
import Derived.Deep.LoopGhost
import Derived.Deep.OwnRows
import Derived.Lib.OthersKept
import Derived.Handy
set_option linter.unusedVariables false
set_option linter.unusedSimpArgs false
namespace Go.Proofs.YtaajpliifdlokaaGreatDoor.Fr
open Go.RowKit
def RdF (w : World) (v : Value) (neg : Bool) (p q : Nat) : Prop :=
  ∃ a c a' c', v = .agg #[.bool neg, .slice a (dig p).length c, .bool false, .slice a' (dig q).length c'] ∧ Rd32 w (.slice a (dig p).length c) (dig p) ∧ Rd32 w (.slice a' (dig q).length c') (dig q)
theorem RdF.kept {w w' : World} {v : Value} {neg : Bool} {p q : Nat} (h : RdF w v neg p q) (hb : Below w.heap.size w w') : RdF w' v neg p q := by
  obtain ⟨a, c, a', c', e, h1, h2⟩ := h; exact ⟨a, c, a', c', e, h1.kept hb, h2.kept hb⟩
def NewF (B : Nat) (w' : World) (a : Option Addr) (c : Nat) (a' : Option Addr) (c' : Nat) (p q : Nat) : Prop :=
  Rd32 w' (.slice a (dig p).length c) (dig p) ∧ Rd32 w' (.slice a' (dig q).length c') (dig q) ∧ (∀ R, R < B → Off R (.slice a (dig p).length c)) ∧ (∀ R, R < B → Off R (.slice a' (dig q).length c'))
theorem NewF.setCell {B : Nat} {w' : World} {a : Option Addr} {c : Nat} {a' : Option Addr} {c' p q : Nat} (h : NewF B w' a c a' c' p q) {x : Addr} {v : Value} (hx : x.block < B) : NewF B (w'.setCell x v) a c a' c' p q :=
  ⟨h.1.setCell (h.2.2.1 _ hx), h.2.1.setCell (h.2.2.2 _ hx), h.2.2⟩
theorem NewF.mono {B B' : Nat} {w' : World} {a : Option Addr} {c : Nat} {a' : Option Addr} {c' p q : Nat} (h : NewF B w' a c a' c' p q) (hB : B' ≤ B) : NewF B' w' a c a' c' p q :=
  ⟨h.1, h.2.1, fun R hR => h.2.2.1 R (by omega), fun R hR => h.2.2.2 R (by omega)⟩
theorem NewF.kept {B : Nat} {w w' : World} {a : Option Addr} {c : Nat} {a' : Option Addr} {c' p q : Nat} (h : NewF B w a c a' c' p q) (hb : Below w.heap.size w w') : NewF B w' a c a' c' p q :=
  ⟨h.1.kept hb, h.2.1.kept hb, h.2.2⟩
theorem NewF.rd {B : Nat} {w : World} {a : Option Addr} {c : Nat} {a' : Option Addr} {c' p q : Nat} (h : NewF B w a c a' c' p q) (neg : Bool) : RdF w (.agg #[.bool neg, .slice a (dig p).length c, .bool false, .slice a' (dig q).length c']) neg p q := ⟨a, c, a', c', rfl, h.1, h.2.1⟩
def GivesF (w : World) (neg : Bool) (p q : Nat) (e : Ending) (w' : World) : Prop :=
  ∃ a c a' c', e = .returned (.agg #[.bool neg, .slice a (dig p).length c, .bool false, .slice a' (dig q).length c']) ∧ NewF w.heap.size w' a c a' c' p q ∧ Below w.heap.size w w'
def GivesFE (w : World) (neg : Bool) (p q : Nat) (r : Value) (e : Ending) (w' : World) : Prop :=
  ∃ a c a' c', e = .returned (.tuple #[.agg #[.bool neg, .slice a (dig p).length c, .bool false, .slice a' (dig q).length c'], r]) ∧ NewF w.heap.size w' a c a' c' p q ∧ Below w.heap.size w w'
set_option maxRecDepth 100000 in
set_option maxHeartbeats 2000000 in
theorem frac_reduced1 (s1 : Bool) (a a' : Option Addr) (c c' : Nat) (n d : Nat) (w : World) (hx : Rd32 w (.slice a (dig n).length c) (dig n)) (hy : Rd32 w (.slice a' (dig d).length c') (dig d)) (hl : (dig n).length ≤ 1073741824) (hd : 0 < d) (hd2 : d < 4294967296) :
  Calls Tryz.prog 196 #[.agg #[.bool s1, .slice a (dig n).length c], .agg #[.bool false, .slice a' (dig d).length c']] w (GivesF w (s1 && decide (0 < n / Nat.gcd n d)) (n / Nat.gcd n d) (d / Nat.gcd n d)) := by
 have hg0 : 0 < Nat.gcd n d := Nat.gcd_pos_of_pos_right _ hd
 have hgd : Nat.gcd n d ≤ d := Nat.gcd_le_right _ hd
 have hld : (dig d).length ≤ 1073741824 := Nat.le_trans (dig_length_le (k := 1) (by omega)) (by omega)
 have hl1 : (dig (n / Nat.gcd n d)).length ≤ 1073741824 := Nat.le_trans (dig_length_mono (Nat.div_le_self _ _)) hl
 have hl2 : (dig (d / Nat.gcd n d)).length ≤ 1073741824 := Nat.le_trans (dig_length_mono (Nat.div_le_self _ _)) hld
 have HX := hid hx
 have HY := hid hy
 have HC := hid (fun W (hb : Below w.heap.size w W) => frac_common1 _ _ n d W (hx.kept hb) (hy.kept hb) hl hd2)
 have HL := hid hl
 have HLD := hid hld
 have HL1 := hid hl1
 have HL2 := hid hl2
 clear hx hy hl hld hl1 hl2
 generalize Nat.gcd n d = g at *
 have HO1 := hid (fun W v (hb : Below w.heap.size w W) (hv : Rd32 W v (dig g)) => frac_over1 _ v n g W (HX.out.kept hb) hv HL.out hg0 (.inl (by omega)))
 have HO2 := hid (fun W v (hb : Below w.heap.size w W) (hv : Rd32 W v (dig g)) => frac_over1 _ v d g W (HY.out.kept hb) hv HLD.out hg0 (.inl (by omega)))
 generalize (dig n).length = L at *
 generalize (dig d).length = L' at *
 generalize n / g = p at *
 generalize d / g = q at *
 go_enter Tryz.func196, Tryz.ntmps196
 go_wp2_with fail
 refine (HC.out _ (by repeat' (first | (with_reducible exact Below.refl _ _) | (with_reducible assumption) | (with_reducible refine below_drewN ?_) | (with_reducible refine Below.alloc ?_ ?_ _) | (with_reducible refine Below.drew ?_) | (with_reducible refine Below.setCell ?_ ?_ _) | (with_reducible refine Below.trans ?_ (Below.mono (by with_reducible assumption) ?_)) | go_size))).mono ?_
 rintro e w1 ⟨v1, rfl, hv1, hb1⟩
 have HV1 := hid hv1
 have HB1 := hid hb1
 have hz1 := hb1.size
 have k0 := cell_later hb1 (a := ⟨w.heap.size, 0, none⟩) (v := .bool s1) (by go_cell)
 have k1 := cell_later hb1 (a := ⟨w.heap.size, 1, none⟩) (v := .slice a L c) (by go_cell)
 have k2 := cell_later hb1 (a := ⟨w.heap.size + 1, 0, none⟩) (v := .bool false) (by go_cell)
 have k3 := cell_later hb1 (a := ⟨w.heap.size + 1, 1, none⟩) (v := .slice a' L' c') (by go_cell)
 have k4 := cell_later hb1 (a := ⟨w.heap.size + 1 + 1, 0, none⟩) (v := .bool false) (by go_cell)
 have k5 := cell_later hb1 (a := ⟨w.heap.size + 1 + 1, 1, none⟩) (v := .slice none 0 0) (by go_cell)
 have k6 := cell_later hb1 (a := ⟨w.heap.size + 1 + 1, 2, none⟩) (v := .bool false) (by go_cell)
 have k7 := cell_later hb1 (a := ⟨w.heap.size + 1 + 1, 3, none⟩) (v := .slice none 0 0) (by go_cell)
 have fk4 := frozen_later hb1 (a := ⟨w.heap.size + 1 + 1, 0, none⟩) (v := .bool false) (by go_cell) (by simp [go_sem])
 have fk5 := frozen_later hb1 (a := ⟨w.heap.size + 1 + 1, 1, none⟩) (v := .slice none 0 0) (by go_cell) (by simp [go_sem])
 have fk6 := frozen_later hb1 (a := ⟨w.heap.size + 1 + 1, 2, none⟩) (v := .bool false) (by go_cell) (by simp [go_sem])
 have fk7 := frozen_later hb1 (a := ⟨w.heap.size + 1 + 1, 3, none⟩) (v := .slice none 0 0) (by go_cell) (by simp [go_sem])
 have hA1 : Below w.heap.size w w1 := by repeat' (first | (with_reducible exact Below.refl _ _) | (with_reducible assumption) | (with_reducible refine below_drewN ?_) | (with_reducible refine Below.alloc ?_ ?_ _) | (with_reducible refine Below.drew ?_) | (with_reducible refine Below.setCell ?_ ?_ _) | (with_reducible refine Below.trans ?_ (Below.mono (by with_reducible assumption) ?_)) | go_size)
 have HA1 := hid hA1
 obtain ⟨ag, Lg, cg, rfl, _⟩ := HV1.out.len
 have HG := hid hv1.rd
 clear hv1 hb1 hA1
 simp at hz1
 go_wp2_with fail
 refine (HO1.out _ _ HA1.out HG.out).mono ?_
 rintro e w2 ⟨a2, c2, a3, c3, rfl, hr1, hr2, ho1, ho2, hb2⟩
 have HP := hid hr1
 have HPO := hid ho1
 have HB2 := hid hb2
 have hz2 := hb2.size
 have j0 := cell_later hb2 k0
 have j1 := cell_later hb2 k1
 have j2 := cell_later hb2 k2
 have j3 := cell_later hb2 k3
 have j4 := cell_later hb2 k4
 have j5 := cell_later hb2 k5
 have j6 := cell_later hb2 k6
 have j7 := cell_later hb2 k7
 have fj4 := frozen_later hb2 k4 fk4
 have fj5 := frozen_later hb2 k5 fk5
 have fj6 := frozen_later hb2 k6 fk6
 have fj7 := frozen_later hb2 k7 fk7
 have hA2 : Below w.heap.size w w2 := by have h := HA1.out; repeat' (first | (with_reducible exact Below.refl _ _) | (with_reducible assumption) | (with_reducible refine below_drewN ?_) | (with_reducible refine Below.alloc ?_ ?_ _) | (with_reducible refine Below.drew ?_) | (with_reducible refine Below.setCell ?_ ?_ _) | (with_reducible refine Below.trans ?_ (Below.mono (by with_reducible assumption) ?_)) | go_size)
 have HA2 := hid hA2
 clear hr1 hr2 ho1 ho2 hb2 hA2
 go_wp2_with fail
 refine (HO2.out _ _ HA2.out (HG.out.kept HB2.out)).mono ?_
 rintro e w3 ⟨a4, c4, a5, c5, rfl, hr1, hr2, ho1, ho2, hb3⟩
 have HQ := hid hr1
 have HQO := hid ho1
 have HB3 := hid hb3
 have hz3 := hb3.size
 have m0 := cell_later hb3 j0
 have m1 := cell_later hb3 j1
 have m2 := cell_later hb3 j2
 have m3 := cell_later hb3 j3
 have m4 := cell_later hb3 j4
 have m5 := cell_later hb3 j5
 have m6 := cell_later hb3 j6
 have m7 := cell_later hb3 j7
 have fm4 := frozen_later hb3 j4 fj4
 have fm5 := frozen_later hb3 j5 fj5
 have fm6 := frozen_later hb3 j6 fj6
 have fm7 := frozen_later hb3 j7 fj7
 clear hr1 hr2 ho1 ho2 hb3
 go_wp2_with fail
 refine (frac_signed _ _ p _ (HP.out.kept HB3.out) HL1.out).mono ?_
 rintro e w4 ⟨a6, c6, rfl, hr1, ho1, hb4⟩
 have HR1 := hid hr1
 have HRO1 := hid (fun R hR => ho1 R hR (fun u hu => by cases hu))
 have HB4 := hid hb4
 have hz4 := hb4.size
 have n0 := cell_later hb4 m0
 have n1 := cell_later hb4 m1
 have n2 := cell_later hb4 m2
 have n3 := cell_later hb4 m3
 have n4 := cell_later hb4 m4
 have n5 := cell_later hb4 m5
 have n6 := cell_later hb4 m6
 have n7 := cell_later hb4 m7
 have fn4 := frozen_later hb4 m4 fm4
 have fn5 := frozen_later hb4 m5 fm5
 have fn6 := frozen_later hb4 m6 fm6
 have fn7 := frozen_later hb4 m7 fm7
 clear hr1 ho1 hb4
 go_wp2_with fail
 refine (frac_signed _ _ q _ (HQ.out.kept HB4.out) HL2.out).mono ?_
 rintro e w5 ⟨a7, c7, rfl, hr1, ho1, hb5⟩
 have HR2 := hid hr1
 have HRO2 := hid (fun R hR => ho1 R hR (fun u hu => by cases hu))
 have HB5 := hid hb5
 have hz5 := hb5.size
 have o0 := cell_later hb5 n0
 have o1 := cell_later hb5 n1
 have o2 := cell_later hb5 n2
 have o3 := cell_later hb5 n3
 have o4 := cell_later hb5 n4
 have o5 := cell_later hb5 n5
 have o6 := cell_later hb5 n6
 have o7 := cell_later hb5 n7
 have fo4 := frozen_later hb5 n4 fn4
 have fo5 := frozen_later hb5 n5 fn5
 have fo6 := frozen_later hb5 n6 fn6
 have fo7 := frozen_later hb5 n7 fn7
 clear hr1 ho1 hb5
 go_wp2
 refine bodyPost_ret (by simp [results, Tryz.results196, go_sem, o4, o5, o6, o7]; rfl) rfl ?_
 have hN : NewF (w.heap.size + 1 + 1 + 1) w5 a6 c6 a7 c7 p q := ⟨HR1.out.kept HB5.out, HR2.out, fun R hR => HRO1.out R (by omega), fun R hR => HRO2.out R (by omega)⟩
 exact ⟨a6, c6, a7, c7, by first | rfl | simp, ((((hN.setCell (by simp)).setCell (by simp)).setCell (by simp)).setCell (by simp)).mono (by omega), by have h2 := HA2.out; have h3 := HB3.out; have h4 := HB4.out; have h5 := HB5.out; repeat' (first | (with_reducible exact Below.refl _ _) | (with_reducible assumption) | (with_reducible refine below_drewN ?_) | (with_reducible refine Below.alloc ?_ ?_ _) | (with_reducible refine Below.drew ?_) | (with_reducible refine Below.setCell ?_ ?_ _) | (with_reducible refine Below.trans ?_ (Below.mono (by with_reducible assumption) ?_)) | go_size)⟩
set_option maxRecDepth 100000 in
set_option maxHeartbeats 2000000 in
theorem frac_Make1 (s1 : Bool) (a a' : Option Addr) (c c' : Nat) (n d : Nat) (w : World) (hx : Rd32 w (.slice a (dig n).length c) (dig n)) (hy : Rd32 w (.slice a' (dig d).length c') (dig d)) (hok : okBig s1 (dig n) = true) (hl : (dig n).length ≤ 1073741824) (hd : 0 < d) (hd2 : d < 4294967296) :
  Calls Tryz.prog 129 #[.agg #[.bool s1, .slice a (dig n).length c], .agg #[.bool false, .slice a' (dig d).length c']] w (GivesFE w (s1 && decide (0 < n / Nat.gcd n d)) (n / Nat.gcd n d) (d / Nat.gcd n d) (.int .i64 0)) := by
 have hok2 : okBig false (dig d) = true := okBig_false d (Nat.le_trans (dig_length_le (k := 1) (by omega)) (by omega))
 have hb2 := fun W g hb hg h0 h1 h2 h3 => frac_bigs2 g s1 false (dig n) (dig d) a a' c c' W hg h0 h1 h2 h3 (hx.kept hb) (hy.kept hb)
 rw [hok, hok2] at hb2
 have HBG := hid hb2
 have HRD := hid (fun W (hb : Below w.heap.size w W) => frac_reduced1 s1 a a' c c' n d W (hx.kept hb) (hy.kept hb) hl hd hd2)
 have hLp := dig_length_pos.2 hd
 clear hx hy hb2 hok hok2 hl
 generalize (dig n).length = L at *
 generalize (dig d).length = L' at *
 generalize n / Nat.gcd n d = p at *
 generalize d / Nat.gcd n d = q at *
 have hL0 : ((L' : Int) == 0) = false := by simp; omega
 go_enter Tryz.func129, Tryz.ntmps129
 go_wp2_with fail
 refine (HBG.out _ _ (by repeat' (first | (with_reducible exact Below.refl _ _) | (with_reducible assumption) | (with_reducible refine below_drewN ?_) | (with_reducible refine Below.alloc ?_ ?_ _) | (with_reducible refine Below.drew ?_) | (with_reducible refine Below.setCell ?_ ?_ _) | (with_reducible refine Below.trans ?_ (Below.mono (by with_reducible assumption) ?_)) | go_size)) (by simp) (by go_cell) (by go_cell) (by go_cell) (by go_cell)).mono ?_
 rintro e w1 ⟨rfl, hb1⟩
 have HB1 := hid hb1
 have hz1 := hb1.size
 have k0 := cell_later hb1 (a := ⟨w.heap.size, 0, none⟩) (v := .bool s1) (by go_cell)
 have k1 := cell_later hb1 (a := ⟨w.heap.size, 1, none⟩) (v := .slice a L c) (by go_cell)
 have k2 := cell_later hb1 (a := ⟨w.heap.size + 1, 0, none⟩) (v := .bool false) (by go_cell)
 have k3 := cell_later hb1 (a := ⟨w.heap.size + 1, 1, none⟩) (v := .slice a' L' c') (by go_cell)
 have k4 := cell_later hb1 (a := ⟨w.heap.size + 1 + 1, 0, none⟩) (v := .bool false) (by go_cell)
 have k5 := cell_later hb1 (a := ⟨w.heap.size + 1 + 1, 1, none⟩) (v := .slice none 0 0) (by go_cell)
 have k6 := cell_later hb1 (a := ⟨w.heap.size + 1 + 1, 2, none⟩) (v := .bool false) (by go_cell)
 have k7 := cell_later hb1 (a := ⟨w.heap.size + 1 + 1, 3, none⟩) (v := .slice none 0 0) (by go_cell)
 have fk4 := frozen_later hb1 (a := ⟨w.heap.size + 1 + 1, 0, none⟩) (v := .bool false) (by go_cell) (by simp [go_sem])
 have fk5 := frozen_later hb1 (a := ⟨w.heap.size + 1 + 1, 1, none⟩) (v := .slice none 0 0) (by go_cell) (by simp [go_sem])
 have fk6 := frozen_later hb1 (a := ⟨w.heap.size + 1 + 1, 2, none⟩) (v := .bool false) (by go_cell) (by simp [go_sem])
 have fk7 := frozen_later hb1 (a := ⟨w.heap.size + 1 + 1, 3, none⟩) (v := .slice none 0 0) (by go_cell) (by simp [go_sem])
 have hA1 : Below w.heap.size w w1 := by repeat' (first | (with_reducible exact Below.refl _ _) | (with_reducible assumption) | (with_reducible refine below_drewN ?_) | (with_reducible refine Below.alloc ?_ ?_ _) | (with_reducible refine Below.drew ?_) | (with_reducible refine Below.setCell ?_ ?_ _) | (with_reducible refine Below.trans ?_ (Below.mono (by with_reducible assumption) ?_)) | go_size)
 have HA1 := hid hA1
 clear hb1 hA1
 simp at hz1
 go_wp2_with fail
 refine (HRD.out _ HA1.out).mono ?_
 rintro e w2 ⟨a2, c2, a3, c3, rfl, hN, hb2⟩
 have HN := hid hN
 have HB2 := hid hb2
 have hz2 := hb2.size
 have j0 := cell_later hb2 k0
 have j1 := cell_later hb2 k1
 have j2 := cell_later hb2 k2
 have j3 := cell_later hb2 k3
 have j4 := cell_later hb2 k4
 have j5 := cell_later hb2 k5
 have j6 := cell_later hb2 k6
 have j7 := cell_later hb2 k7
 have fj4 := frozen_later hb2 k4 fk4
 have fj5 := frozen_later hb2 k5 fk5
 have fj6 := frozen_later hb2 k6 fk6
 have fj7 := frozen_later hb2 k7 fk7
 clear hN hb2
 go_wp2
 refine bodyPost_ret (by simp [results, Tryz.results129, go_sem, j4, j5, j6, j7]; rfl) rfl ?_
 exact ⟨a2, c2, a3, c3, by first | rfl | simp, ((((HN.out.setCell (by simp; omega)).setCell (by simp; omega)).setCell (by simp; omega)).setCell (by simp; omega)).mono (by omega), by have h2 := HA1.out; have h3 := HB2.out; repeat' (first | (with_reducible exact Below.refl _ _) | (with_reducible assumption) | (with_reducible refine below_drewN ?_) | (with_reducible refine Below.alloc ?_ ?_ _) | (with_reducible refine Below.drew ?_) | (with_reducible refine Below.setCell ?_ ?_ _) | (with_reducible refine Below.trans ?_ (Below.mono (by with_reducible assumption) ?_)) | go_size)⟩
end Go.Proofs.YtaajpliifdlokaaGreatDoor.Fr

namespace Go.Proofs.YtaajpliifdlokaaGreatDoor.Fr
open Go.RowKit
set_option maxRecDepth 100000 in
set_option maxHeartbeats 2000000 in
theorem frac_Of1 (n d : Nat) (w : World) (hn : n < 9223372036854775808) (hd : 0 < d) (hd2 : d < 4294967296) :
  Calls Tryz.prog 83 #[.int .i64 (n : Int), .int .i64 (d : Int)] w (GivesFE w false (n / Nat.gcd n d) (d / Nat.gcd n d) (.int .i64 0)) := by
 have hl2 := dig_length_64 (n := n) (by omega)
 have hok : okBig false (dig n) = true := okBig_false n (by omega)
 have HM := hid (fun W a a' c c' hx hy => frac_Make1 false a a' c c' n d W hx hy hok (Nat.le_trans hl2 (by omega)) hd hd2)
 clear hok hl2
 generalize n / Nat.gcd n d = p at *
 generalize d / Nat.gcd n d = q at *
 go_enter Tryz.func83, Tryz.ntmps83
 go_wp2_with fail
 refine (frac_FromInt n _ hn).mono ?_
 rintro e w1 ⟨a1, c1, rfl, hr1, ho1, hb1⟩
 have HR1 := hid hr1
 have HB1 := hid hb1
 have hz1 := hb1.size
 have k0 := cell_later hb1 (a := ⟨w.heap.size, 0, none⟩) (v := .bool false) (by go_cell)
 have k1 := cell_later hb1 (a := ⟨w.heap.size, 1, none⟩) (v := .slice none 0 0) (by go_cell)
 have k2 := cell_later hb1 (a := ⟨w.heap.size, 2, none⟩) (v := .bool false) (by go_cell)
 have k3 := cell_later hb1 (a := ⟨w.heap.size, 3, none⟩) (v := .slice none 0 0) (by go_cell)
 have fk0 := frozen_later hb1 (a := ⟨w.heap.size, 0, none⟩) (v := .bool false) (by go_cell) (by simp [go_sem])
 have fk1 := frozen_later hb1 (a := ⟨w.heap.size, 1, none⟩) (v := .slice none 0 0) (by go_cell) (by simp [go_sem])
 have fk2 := frozen_later hb1 (a := ⟨w.heap.size, 2, none⟩) (v := .bool false) (by go_cell) (by simp [go_sem])
 have fk3 := frozen_later hb1 (a := ⟨w.heap.size, 3, none⟩) (v := .slice none 0 0) (by go_cell) (by simp [go_sem])
 have hA1 : Below w.heap.size w w1 := by repeat' (first | (with_reducible exact Below.refl _ _) | (with_reducible assumption) | (with_reducible refine below_drewN ?_) | (with_reducible refine Below.alloc ?_ ?_ _) | (with_reducible refine Below.drew ?_) | (with_reducible refine Below.setCell ?_ ?_ _) | (with_reducible refine Below.trans ?_ (Below.mono (by with_reducible assumption) ?_)) | go_size)
 have HA1 := hid hA1
 clear hb1 hA1 hr1 ho1
 simp at hz1
 go_wp2_with fail
 refine (frac_FromInt d _ (by omega)).mono ?_
 rintro e w2 ⟨a2, c2, rfl, hr1, ho1, hb2⟩
 have HR2 := hid hr1
 have HB2 := hid hb2
 have hz2 := hb2.size
 have j0 := cell_later hb2 k0
 have j1 := cell_later hb2 k1
 have j2 := cell_later hb2 k2
 have j3 := cell_later hb2 k3
 have fj0 := frozen_later hb2 k0 fk0
 have fj1 := frozen_later hb2 k1 fk1
 have fj2 := frozen_later hb2 k2 fk2
 have fj3 := frozen_later hb2 k3 fk3
 clear hr1 ho1 hb2
 go_wp2_with fail
 refine (HM.out _ _ _ _ _ (HR1.out.kept HB2.out) HR2.out).mono ?_
 rintro e w3 ⟨a3, c3, a4, c4, rfl, hN, hb3⟩
 have HN := hid hN
 have HB3 := hid hb3
 have hz3 := hb3.size
 have m0 := cell_later hb3 j0
 have m1 := cell_later hb3 j1
 have m2 := cell_later hb3 j2
 have m3 := cell_later hb3 j3
 have fm0 := frozen_later hb3 j0 fj0
 have fm1 := frozen_later hb3 j1 fj1
 have fm2 := frozen_later hb3 j2 fj2
 have fm3 := frozen_later hb3 j3 fj3
 clear hN hb3
 go_wp2
 refine bodyPost_ret (by simp [results, Tryz.results83, go_sem, m0, m1, m2, m3]; rfl) rfl ?_
 exact ⟨a3, c3, a4, c4, by first | rfl | simp, ((((HN.out.setCell (by simp; omega)).setCell (by simp; omega)).setCell (by simp; omega)).setCell (by simp; omega)).mono (by omega), by have h1 := HA1.out; have h2 := HB2.out; have h3 := HB3.out; repeat' (first | (with_reducible exact Below.refl _ _) | (with_reducible assumption) | (with_reducible refine below_drewN ?_) | (with_reducible refine Below.alloc ?_ ?_ _) | (with_reducible refine Below.drew ?_) | (with_reducible refine Below.setCell ?_ ?_ _) | (with_reducible refine Below.trans ?_ (Below.mono (by with_reducible assumption) ?_)) | go_size)⟩
end Go.Proofs.YtaajpliifdlokaaGreatDoor.Fr

namespace Go.Proofs.YtaajpliifdlokaaGreatDoor.Fr
open Go.RowKit
set_option maxRecDepth 100000 in
set_option maxHeartbeats 2000000 in
theorem frac_times (u v : Value) (xs ys : List Nat) (w : World) (hx : Rd32 w u xs) (hy : Rd32 w v ys) (hlx : xs.length ≤ 1073741824) (hly : ys.length ≤ 1073741824) :
  Calls Tryz.prog 128 #[u, v] w (GivesD w (val xs * val ys)) := by
 obtain ⟨a, c, rfl, hc, hm, hxr, hxc⟩ := hx
 obtain ⟨a', c', rfl, hc', hm', hyr, hyc⟩ := hy
 unfold maxLen at hm hm'
 obtain ⟨i0, hi, hz0, hz1, hz2⟩ := info_parts info_u32
 obtain ⟨n, hn⟩ : ∃ n, n = xs.length := ⟨_, rfl⟩
 obtain ⟨n', hn'⟩ : ∃ n, n = ys.length := ⟨_, rfl⟩
 rw [← hn] at hc hxc hlx ⊢
 rw [← hn'] at hc' hyc hly ⊢
 have HN := hid hn
 have HN' := hid hn'
 have HX := hid hxr
 have HY := hid hyr
 have HXC := hid hxc
 have HYC := hid hyc
 clear hn hn' hxr hyr hxc hyc
 go_enter Tryz.func128, Tryz.ntmps128
 go_wp2_with (at_make; refine wpList_make_full _ rfl _ _ 164 rfl w.heap.size 159 i0 (.int .u32 0) 1 Tryz.underlying164 hi hz0 hz1 _ _ _ _ (n + n') rfl rfl (by omega) (by omega) (by rw [hz2]; omega) (by unfold maxLen; omega) (Nat.le_refl _) ?_)
 intro w1 hown hgrow
 have hO := Own32.of_made hown
 have hb1 : Below w.heap.size w w1 := (Below.refl _ _).grown hgrow (Nat.le_refl _) (fun k h => by cases h)
 have HO := hid hO
 have HB1 := hid hb1
 clear hown hgrow hO hb1
 generalize hg : w.heap.size = g at *
 have HG := hid hg
 clear hg
 go_wp2
 go_loopw [19] (fun i wr => ∃ k : Nat, k ≤ n ∧ i = .int .i64 k ∧ ∃ zs, Own32 wr g (n + n') zs ∧ val zs = vt xs k * val ys ∧ (∀ p, k + n' ≤ p → zs.getD p 0 = 0) ∧ Below g w wr) (fun i _ => n - (intOf i).toNat)
 case atStart => exact ⟨0, by omega, rfl, _, HO.out, by rw [val_replicate]; simp [vt, val], fun p _ => by simp only [List.getD, List.getElem?_replicate]; split <;> rfl, HB1.out⟩
 case round =>
  clear HB1 HO
  obtain ⟨k, hk, rfl, zs, hzo, hzv, hzz, hbl⟩ := hrel
  have HO := hid hzo
  have HV := hid hzv
  have HZ := hid hzz
  have HB := hid hbl
  clear hzo hzv hzz hbl
  by_cases h1 : k < n
  ·obtain ⟨b, o, rfl, hb, hcell⟩ := HXC.out (by omega)
   have hbg : b < g := by have := HG.out; omega
   have HCX := hid (hcell k h1)
   have hxk := HX.out k
   have HXK : Hid (xs.getD k 0 = xs.getD k 0) := hid rfl
   clear hcell
   obtain ⟨x, hxe⟩ : ∃ x, x = xs.getD k 0 := ⟨_, rfl⟩
   rw [← hxe] at HCX hxk
   have HXE := hid hxe
   clear hxe HXK
   obtain ⟨wo, rfl⟩ : ∃ wo : World, wo = wr := ⟨_, rfl⟩
   have hcx0 := (HB.out.cell (p := ⟨b, o + k, none⟩) hbg).trans HCX.out
   go_wp2
   clear hcx0
   go_loopw [8, 26] (fun cv jv wr => ∃ j cy : Nat, j ≤ n' ∧ jv = .int .i64 j ∧ cv = .int .u64 cy ∧ cy < 4294967296 ∧ ∃ zs, Own32 wr g (n + n') zs ∧ val zs + 4294967296 ^ (k + j) * cy = vt xs k * val ys + x * (4294967296 ^ k * vt ys j) ∧ (∀ p, k + n' ≤ p → zs.getD p 0 = 0) ∧ Below g w wr) (fun _ jv _ => n' - (intOf jv).toNat)
   case atStart => exact ⟨0, 0, by omega, rfl, rfl, by omega, zs, HO.out, by rw [HV.out, vt_zero]; simp, HZ.out, HB.out⟩
   case round =>
    clear HO HV HZ HB
    obtain ⟨j, cy, hj, rfl, rfl, hcy, zs, hzo, hzv, hzz, hbl⟩ := hrel
    have HO := hid hzo
    have HV := hid hzv
    have HZ := hid hzz
    have HB := hid hbl
    clear hzo hzv hzz hbl
    have hcx := (HB.out.cell (p := ⟨b, o + k, none⟩) hbg).trans HCX.out
    by_cases h2 : j < n'
    ·obtain ⟨b', o', rfl, hb', hcell⟩ := HYC.out (by omega)
     have hcy' := (HB.out.cell (p := ⟨b', o' + j, none⟩) (by have := HG.out; omega)).trans (hcell j h2)
     clear hcell
     have hyj := HY.out j
     obtain ⟨hcz, hfz⟩ := HO.out.2.2.2 (k + j) (by omega)
     have hzj := HO.out.2.1 (k + j)
     have HST := hid (fun t ht => mul_step (t := t) (by rw [HO.out.1]; omega) HV.out ht)
     have hmb := mul_bound hxk hyj hcy hzj
     obtain ⟨m, hme⟩ : ∃ m, m = x * ys.getD j 0 := ⟨_, rfl⟩
     rw [← hme] at HST hmb
     have hme' : ((x : Nat) : Int) * ((ys.getD j 0 : Nat) : Int) = (m : Int) := by rw [hme]; simp
     generalize ys.getD j 0 = y at *
     generalize zs.getD (k + j) 0 = z at *
     clear hme
     have hm1 := hmb.1
     have hm2 := hmb.2
     clear hmb
     go_wp2
     have hst := HST.out _ rfl
     have HST2 := hid hst
     clear hst HST hcx hcy'
     have hset := HO.out.set (show k + j < n + n' by omega) (show (cy + (m + z)) % 4294967296 < 4294967296 by omega)
     have HO2 := hid hset
     clear hset
     go_roundw
     case rel => exact ⟨j + 1, (cy + (m + z)) / 4294967296, by omega, by go_num, by go_num, by omega, zs.set (k + j) ((cy + (m + z)) % 4294967296), HO2.out, HST2.out, fun p hp => by rw [getD_set_other (by omega)]; exact HZ.out p hp, HB.out.setCell (Nat.le_refl _) _⟩
     case measure => simp [intOf]; omega
    ·obtain rfl : n' = j := by omega
     obtain ⟨hcz, hfz⟩ := HO.out.2.2.2 (k + n') (by omega)
     have hv2 := HV.out
     rw [HXE.out] at hv2
     have hrow := mul_row (by rw [HO.out.1]; omega) (HZ.out _ (Nat.le_refl _)) (by have := HN'.out; omega) hv2
     have HR := hid hrow
     have HO2 := hid (HO.out.set (show k + n' < n + n' by omega) hcy)
     rw [HZ.out _ (Nat.le_refl _)] at hcz
     clear hrow hv2 hcx
     go_wp2
     go_roundw
     case rel => exact ⟨k + 1, by omega, by go_num, zs.set (k + n') cy, HO2.out, HR.out, fun p hp => by rw [getD_set_other (by omega)]; exact HZ.out p (by omega), HB.out.setCell (Nat.le_refl _) _⟩
     case measure => simp [intOf]; omega
  ·have hV : val zs = val xs * val ys := by rw [HV.out, vt_all xs k (by have := HN.out; omega)]
   have HF := hid hV
   have hgl := HG.out
   clear hV
   go_wp2_with fail
   refine (frac_trimmed _ _ _ (HO.out.rd (Nat.le_refl _) (by unfold maxLen; omega))).mono ?_
   rintro e w' ⟨a2, c2, rfl, hv2, ho2, k2, rfl⟩
   rw [HF.out] at hv2 ho2
   rw [HF.out]
   have HV2 := hid (hv2 _ (HO.out.rd (Nat.le_refl _) (by unfold maxLen; omega)))
   have HO2 := hid ho2
   clear hv2 ho2
   go_wp2
   go_ret
   exact ⟨_, _, rfl, HV2.out, fun R hR => HO2.out R (Off.of_lt (by omega)), by rw [hgl]; exact below_drewN HB.out⟩
end Go.Proofs.YtaajpliifdlokaaGreatDoor.Fr

namespace Go.Proofs.YtaajpliifdlokaaGreatDoor
open Go.RowKit
theorem hid {p : Prop} (h : p) : Hid p := h
def Quiet (w : World) (v : Value) (e : Ending) (w' : World) : Prop := e = .returned v ∧ ∃ k, w' = w.drewN k
def Ret (w : World) (v : Value) (e : Ending) (w' : World) : Prop := e = .returned v ∧ Below w.heap.size w w'
theorem below_drewN {B n : Nat} {a w : World} (h : Below B a w) : Below B a (w.drewN n) := ⟨h.os, h.tape, h.output, h.size, h.block⟩
theorem Quiet.ret {w : World} {v : Value} {e : Ending} {w' : World} (h : Quiet w v e w') : Ret w v e w' := by
  obtain ⟨he, k, rfl⟩ := h
  exact ⟨he, below_drewN (Below.refl _ _)⟩
theorem bcell {B : Nat} {W w1 : World} (hb : Below B W w1) : (∀ b o, b < B → w1.cell? ⟨b, o, none⟩ = W.cell? ⟨b, o, none⟩) ∧ (∀ b o, b < B → w1.frozen? ⟨b, o, none⟩ = W.frozen? ⟨b, o, none⟩) :=
  ⟨fun b o h => hb.cell (p := ⟨b, o, none⟩) h, fun b o h => hb.frozen (p := ⟨b, o, none⟩) h⟩
theorem frozen_later {w wx : World} {a : Addr} {v : Value} (hb : Below w.heap.size w wx) (hc : w.cell? a = some v) (h : w.frozen? a = false) : wx.frozen? a = false :=
  (hb.frozen (World.block_lt_of_cell? _ _ hc)).trans h
theorem ret_int {k : IntKind} {a b : Int} (h : a = b) : Ending.returned (.int k a) = .returned (.int k b) := by rw [h]
theorem ret_bool {a b : Bool} (h : a = b) : Ending.returned (.bool a) = .returned (.bool b) := by rw [h]
def Rd (w : World) (B : Nat) (v : Value) (n : Nat) (f : Nat → Value) : Prop :=
  ∃ a c, v = .slice a n c ∧ n ≤ c ∧ c ≤ maxLen ∧ (0 < n → ∃ b o, a = some ⟨b, o, none⟩ ∧ b < B ∧ ∀ i, i < n → w.cell? ⟨b, o + i, none⟩ = some (f i))
def Rd2 (w : World) (B : Nat) (v : Value) (n : Nat) (f g : Nat → Value) : Prop :=
  ∃ a c, v = .slice a n c ∧ n ≤ c ∧ c ≤ maxLen ∧ (0 < n → ∃ b o, a = some ⟨b, o, none⟩ ∧ b < B ∧ ∀ i, i < n → w.cell? ⟨b, o + i * 2, none⟩ = some (f i) ∧ w.cell? ⟨b, o + i * 2 + 1, none⟩ = some (g i))
section
variable {w w' : World} {B B' n : Nat} {v : Value} {f g : Nat → Value}
theorem Rd.keep (h : Rd w B v n f) (hk : ∀ p : Addr, p.block < B → w'.cell? p = w.cell? p) : Rd w' B v n f := by
  obtain ⟨a, c, e, h1, h2, h3⟩ := h
  refine ⟨a, c, e, h1, h2, fun hp => ?_⟩
  obtain ⟨b, o, e1, h5, h6⟩ := h3 hp
  exact ⟨b, o, e1, h5, fun i hi => (hk _ h5).trans (h6 i hi)⟩
theorem Rd.more (h : Rd w B v n f) (hB : B ≤ B') : Rd w B' v n f := by
  obtain ⟨a, c, e, h1, h2, h3⟩ := h
  refine ⟨a, c, e, h1, h2, fun hp => ?_⟩
  obtain ⟨b, o, e1, h5, h6⟩ := h3 hp
  exact ⟨b, o, e1, by omega, h6⟩
theorem Rd.below (h : Rd w B v n f) {C : Nat} (hb : Below C w w') (hC : B ≤ C) : Rd w' B v n f := h.keep fun _ hp => hb.cell (by omega)
theorem Rd.drewN (h : Rd w B v n f) (k : Nat) : Rd (w.drewN k) B v n f := h
theorem Rd.nil : Rd w B (.slice none 0 0) 0 f := ⟨none, 0, rfl, Nat.le_refl _, by simp [maxLen], fun h => absurd h (by omega)⟩
theorem Rd.congr (h : Rd w B v n f) (e : ∀ i, i < n → f i = g i) : Rd w B v n g := by
  obtain ⟨a, c, e1, h1, h2, h3⟩ := h
  refine ⟨a, c, e1, h1, h2, fun hp => ?_⟩
  obtain ⟨b, o, e2, h5, h6⟩ := h3 hp
  exact ⟨b, o, e2, h5, fun i hi => by rw [← e i hi]; exact h6 i hi⟩
theorem Rd2.keep (h : Rd2 w B v n f g) (hk : ∀ p : Addr, p.block < B → w'.cell? p = w.cell? p) : Rd2 w' B v n f g := by
  obtain ⟨a, c, e, h1, h2, h3⟩ := h
  refine ⟨a, c, e, h1, h2, fun hp => ?_⟩
  obtain ⟨b, o, e1, h5, h6⟩ := h3 hp
  exact ⟨b, o, e1, h5, fun i hi => ⟨(hk _ h5).trans (h6 i hi).1, (hk _ h5).trans (h6 i hi).2⟩⟩
theorem Rd2.more (h : Rd2 w B v n f g) (hB : B ≤ B') : Rd2 w B' v n f g := by
  obtain ⟨a, c, e, h1, h2, h3⟩ := h
  refine ⟨a, c, e, h1, h2, fun hp => ?_⟩
  obtain ⟨b, o, e1, h5, h6⟩ := h3 hp
  exact ⟨b, o, e1, by omega, h6⟩
theorem Rd2.below (h : Rd2 w B v n f g) {C : Nat} (hb : Below C w w') (hC : B ≤ C) : Rd2 w' B v n f g := h.keep fun _ hp => hb.cell (by omega)
theorem Rd2.nil : Rd2 w B (.slice none 0 0) 0 f g := ⟨none, 0, rfl, Nat.le_refl _, by simp [maxLen], fun h => absurd h (by omega)⟩
end
theorem rd_of_owns {w : World} {base : Nat} {e : TypeId} {v : Value} {n : Nat} {xs : List Value} (h : w.ownsRow base e 1 v n xs) (f : Nat → Value) (hf : ∀ i, i < n → xs[i]? = some (f i)) :
    Rd w w.heap.size v n f := by
  obtain ⟨hl, h⟩ := h
  rcases h with ⟨rfl, rfl⟩ | ⟨g, cap, cur, rfl, hb, hg, hn, hm, hs, ht⟩
  · exact Rd.nil
  · refine ⟨_, _, rfl, hn, hm, fun hp => ⟨g, 0, rfl, (Array.getElem?_eq_some_iff.1 hg).1, fun i hi => ?_⟩⟩
    rw [Nat.zero_add, cell_of_row w g i cur e (0, 0) hg]
    have h1 := hf i hi
    rw [← ht, List.getElem?_take, if_pos (by omega)] at h1
    simpa using h1
theorem push_below {B e size n : Nat} {w wr w' : World} {o : Value} {O : Obj} {xs : List Value} (h : Below B w wr) (hB : B ≤ wr.heap.size) (hown : wr.ownsRow B e size o n xs)
    (hg : (wr.alloc O).grownBy w' o.ownBlock) : Below B w w' :=
  (h.alloc hB O).grown hg (by simp; omega) (fun k hk => (hown.lt k hk).1)
theorem own_slice {w : World} {base : Nat} {e : TypeId} {size : Nat} {v : Value} {n : Nat} {xs : List Value} (h : w.ownsRow base e size v n xs) : ∃ a c, v = .slice a n c := by
  rcases h.2 with ⟨rfl, rfl⟩ | ⟨g, cap, cur, rfl, _⟩
  · exact ⟨_, _, rfl⟩
  · exact ⟨_, _, rfl⟩
def strF (xs : List ByteArray) (i : Nat) : Value := .string (xs.getD i ⟨#[]⟩)
def intF (xs : List Int) (i : Nat) : Value := .int .i64 (xs.getD i 0)
def natF (xs : List Nat) (i : Nat) : Value := .int .i64 ((xs.getD i 0 : Nat) : Int)
end Go.Proofs.YtaajpliifdlokaaGreatDoor
