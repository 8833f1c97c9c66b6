/- Contracts of package fraction: FromInt, bigs, reduced, Make, Of. Contracts of package fraction: reduced, Make, Of, of numbers of one digit. Contracts of fraction.Of (small numbers), containment.Valid and containment.Score. -/
import Derived.Test.YtfcccldofaleoaaGreatDoorCopLesaw
namespace Go.Proofs.YtfcccldofaleoaaGreatDoor.Fr
open Go.RowKit

set_option maxHeartbeats 1000000 in
theorem frac_bigs2 (g : Nat) (n1 n2 : Bool) (xs1 xs2 : List Nat) (a1 a2 : Option Addr) (c1 c2 : Nat) (w : World) (hg : g < w.heap.size)
    (h0 : w.cell? ⟨g, 0, none⟩ = some (.bool n1)) (h1 : w.cell? ⟨g, 1, none⟩ = some (.slice a1 xs1.length c1)) (h2 : w.cell? ⟨g, 2, none⟩ = some (.bool n2)) (h3 : w.cell? ⟨g, 3, none⟩ = some (.slice a2 xs2.length c2))
    (hr1 : Rd32 w (.slice a1 xs1.length c1) xs1) (hr2 : Rd32 w (.slice a2 xs2.length c2) xs2) :
    Calls Tryz.prog 138 #[.slice (some ⟨g, 0, none⟩) 2 2] w (Ret w (.bool (okBig n1 xs1 && okBig n2 xs2))) := by
  have HR1 := hid hr1
  have HR2 := hid hr2
  have HV1 := hid (fun W (hb : Below w.heap.size w W) => frac_ValidBig (.agg #[.bool n1, .slice a1 xs1.length c1]) n1 xs1 W ⟨a1, c1, rfl, hr1.kept hb⟩)
  have HV2 := hid (fun W (hb : Below w.heap.size w W) => frac_ValidBig (.agg #[.bool n2, .slice a2 xs2.length c2]) n2 xs2 W ⟨a2, c2, rfl, hr2.kept hb⟩)
  clear hr1 hr2
  generalize xs1.length = l1 at *
  generalize xs2.length = l2 at *
  generalize okBig n1 xs1 = k1 at *
  generalize okBig n2 xs2 = k2 at *
  go_enter Tryz.func138, Tryz.ntmps138
  go_wp2
  refine wp_loop_rounds 3 ?_
  rw [rounds_succ]
  go_wp2_with fail
  refine (HV1.out _ (by repeat' (first | (with_reducible exact Below.refl _ _) | (with_reducible assumption) | (with_reducible refine below_drewN ?_) | (with_reducible refine Below.alloc ?_ ?_ _) | (with_reducible refine Below.drew ?_) | (with_reducible refine Below.setCell ?_ ?_ _) | (with_reducible refine Below.trans ?_ (Below.mono (by with_reducible assumption) ?_)) | go_size))).mono ?_
  rintro e w1 ⟨rfl, hb1⟩
  have HB1 := hid hb1
  have hz1 := hb1.size
  clear hb1
  simp at hz1
  have q2 := cell_later HB1.out (a := ⟨g, 2, none⟩) (v := .bool n2) (by go_cell)
  have q3 := cell_later HB1.out (a := ⟨g, 3, none⟩) (v := .slice a2 l2 c2) (by go_cell)
  cases k1
  · go_wp2
    go_ret
    exact ⟨by simp, by have hb1 := HB1.out; repeat' (first | (with_reducible exact Below.refl _ _) | (with_reducible assumption) | (with_reducible refine below_drewN ?_) | (with_reducible refine Below.alloc ?_ ?_ _) | (with_reducible refine Below.drew ?_) | (with_reducible refine Below.setCell ?_ ?_ _) | (with_reducible refine Below.trans ?_ (Below.mono (by with_reducible assumption) ?_)) | go_size)⟩
  · go_wp2
    rw [rounds_succ]
    go_wp2_with fail
    have hbA : Below w.heap.size w w1 := by have hb1 := HB1.out; repeat' (first | (with_reducible exact Below.refl _ _) | (with_reducible assumption) | (with_reducible refine below_drewN ?_) | (with_reducible refine Below.alloc ?_ ?_ _) | (with_reducible refine Below.drew ?_) | (with_reducible refine Below.setCell ?_ ?_ _) | (with_reducible refine Below.trans ?_ (Below.mono (by with_reducible assumption) ?_)) | go_size)
    refine (HV2.out _ (by repeat' (first | (with_reducible exact Below.refl _ _) | (with_reducible assumption) | (with_reducible refine below_drewN ?_) | (with_reducible refine Below.alloc ?_ ?_ _) | (with_reducible refine Below.drew ?_) | (with_reducible refine Below.setCell ?_ ?_ _) | (with_reducible refine Below.trans ?_ (Below.mono (by with_reducible assumption) ?_)) | go_size))).mono ?_
    rintro e w2 ⟨rfl, hb2⟩
    have HB2 := hid hb2
    have HBA := hid hbA
    have hz2 := hb2.size
    clear hb2 hbA
    simp at hz2
    cases k2
    · go_wp2
      go_ret
      exact ⟨by simp, by have hb1 := HBA.out; have hb2 := HB2.out; repeat' (first | (with_reducible exact Below.refl _ _) | (with_reducible assumption) | (with_reducible refine below_drewN ?_) | (with_reducible refine Below.alloc ?_ ?_ _) | (with_reducible refine Below.drew ?_) | (with_reducible refine Below.setCell ?_ ?_ _) | (with_reducible refine Below.trans ?_ (Below.mono (by with_reducible assumption) ?_)) | go_size)⟩
    · go_wp2
      rw [rounds_succ]
      go_wp2
      go_ret
      exact ⟨by simp, by have hb1 := HBA.out; have hb2 := HB2.out; repeat' (first | (with_reducible exact Below.refl _ _) | (with_reducible assumption) | (with_reducible refine below_drewN ?_) | (with_reducible refine Below.alloc ?_ ?_ _) | (with_reducible refine Below.drew ?_) | (with_reducible refine Below.setCell ?_ ?_ _) | (with_reducible refine Below.trans ?_ (Below.mono (by with_reducible assumption) ?_)) | go_size)⟩

/-- digits of small numbers -/
theorem okBig_dig (neg : Bool) (n : Nat) (hn : n < 4294967296 ^ 256) (h0 : n = 0 → neg = false) : okBig neg (dig n) = true := by
  unfold okBig
  have hl := dig_length_le hn
  by_cases hz : n = 0
  · subst hz
    rw [dig_zero]; simp [h0 rfl]
  · have h1 := lead_dig n (dig_length_pos.2 (by omega))
    have h2 := dig_length_pos.2 (show 0 < n by omega)
    simp only [decide_eq_true_eq]
    exact ⟨hl, .inr ⟨h2, h1⟩⟩
theorem okBig_false (n : Nat) (hn : (dig n).length ≤ 256) : okBig false (dig n) = true := by
  unfold okBig
  by_cases hz : n = 0
  · subst hz
    rw [dig_zero]; simp
  · have h1 := lead_dig n (dig_length_pos.2 (by omega))
    have h2 := dig_length_pos.2 (show 0 < n by omega)
    simp only [decide_eq_true_eq]
    exact ⟨hn, .inr ⟨h2, h1⟩⟩
theorem dig_length_64 {n : Nat} (h : n < 18446744073709551616) : (dig n).length ≤ 2 := dig_length_le (k := 2) (by omega)

set_option maxHeartbeats 1000000 in
theorem frac_FromInt (n : Nat) (w : World) (h : n < 9223372036854775808) :
    Calls Tryz.prog 119 #[.int .i64 (n : Int)] w (GivesZ [] w false n) := by
  have hl : (dig n).length ≤ 1073741824 := Nat.le_trans (dig_length_64 (by omega)) (by omega)
  go_enter Tryz.func119, Tryz.ntmps119
  go_wp2_with fail
  refine (frac_natural n _ (by omega)).mono ?_
  rintro e w1 ⟨a1, c1, rfl, hr1, ho1, hb1⟩
  have HR1 := hid hr1
  have HB1 := hid hb1
  have hz1 := hb1.size
  have q0 := cell_later hb1 (a := ⟨w.heap.size, 0, none⟩) (v := .bool false) (by go_cell)
  have q1 := cell_later hb1 (a := ⟨w.heap.size, 1, none⟩) (v := .slice none 0 0) (by go_cell)
  have f0 := frozen_later hb1 (a := ⟨w.heap.size, 0, none⟩) (v := .bool false) (by go_cell) (by simp [go_sem])
  have f1 := frozen_later hb1 (a := ⟨w.heap.size, 1, none⟩) (v := .slice none 0 0) (by go_cell) (by simp [go_sem])
  clear hr1 ho1 hb1
  simp at hz1
  go_wp2_with fail
  refine (frac_signed false _ n _ HR1.out hl).mono ?_
  rintro e w2 ⟨a2, c2, rfl, hr2, ho2, hb2⟩
  have HR2 := hid hr2
  have HO2 := hid (fun R hR => ho2 R hR (fun u hu => by cases hu))
  have HB2 := hid hb2
  have hz2 := hb2.size
  have q2 := cell_later hb2 q0
  have q3 := cell_later hb2 q1
  have f2 := frozen_later hb2 q0 f0
  have f3 := frozen_later hb2 q1 f1
  clear hr2 ho2 hb2
  go_wp2
  refine bodyPost_ret (by simp [results, Tryz.results119, go_sem, q2, q3]; rfl) rfl ?_
  exact ⟨a2, c2, by trivial, (HR2.out.setCell (HO2.out _ (by simp; omega))).setCell (HO2.out _ (by simp; omega)), fun R hR _ => HO2.out R (by omega), by have hb1 := HB1.out; have hb2 := HB2.out; repeat' (first | (with_reducible exact Below.refl _ _) | (with_reducible assumption) | (with_reducible refine below_drewN ?_) | (with_reducible refine Below.alloc ?_ ?_ _) | (with_reducible refine Below.drew ?_) | (with_reducible refine Below.setCell ?_ ?_ _) | (with_reducible refine Below.trans ?_ (Below.mono (by with_reducible assumption) ?_)) | go_size)⟩

end Go.Proofs.YtfcccldofaleoaaGreatDoor.Fr

namespace Go.Proofs.YtfcccldofaleoaaGreatDoor.Fr
open Go.RowKit

/-- A fraction: sign, numerator, denominator. -/
def RdF (w : World) (v : Value) (neg : Bool) (p q : Nat) : Prop :=
  ∃ a c a' c', v = .agg #[.bool neg, .slice a (dig p).length c, .bool false, .slice a' (dig q).length c'] ∧ Rd32 w (.slice a (dig p).length c) (dig p) ∧ Rd32 w (.slice a' (dig q).length c') (dig q)
theorem RdF.kept {w w' : World} {v : Value} {neg : Bool} {p q : Nat} (h : RdF w v neg p q) (hb : Below w.heap.size w w') : RdF w' v neg p q := by
  obtain ⟨a, c, a', c', e, h1, h2⟩ := h; exact ⟨a, c, a', c', e, h1.kept hb, h2.kept hb⟩
/-- what holds of a fraction in new memory -/
def NewF (B : Nat) (w' : World) (a : Option Addr) (c : Nat) (a' : Option Addr) (c' : Nat) (p q : Nat) : Prop :=
  Rd32 w' (.slice a (dig p).length c) (dig p) ∧ Rd32 w' (.slice a' (dig q).length c') (dig q) ∧ (∀ R, R < B → Off R (.slice a (dig p).length c)) ∧ (∀ R, R < B → Off R (.slice a' (dig q).length c'))
theorem NewF.setCell {B : Nat} {w' : World} {a : Option Addr} {c : Nat} {a' : Option Addr} {c' p q : Nat} (h : NewF B w' a c a' c' p q) {x : Addr} {v : Value} (hx : x.block < B) : NewF B (w'.setCell x v) a c a' c' p q :=
  ⟨h.1.setCell (h.2.2.1 _ hx), h.2.1.setCell (h.2.2.2 _ hx), h.2.2⟩
theorem NewF.mono {B B' : Nat} {w' : World} {a : Option Addr} {c : Nat} {a' : Option Addr} {c' p q : Nat} (h : NewF B w' a c a' c' p q) (hB : B' ≤ B) : NewF B' w' a c a' c' p q :=
  ⟨h.1, h.2.1, fun R hR => h.2.2.1 R (by omega), fun R hR => h.2.2.2 R (by omega)⟩
theorem NewF.kept {B : Nat} {w w' : World} {a : Option Addr} {c : Nat} {a' : Option Addr} {c' p q : Nat} (h : NewF B w a c a' c' p q) (hb : Below w.heap.size w w') : NewF B w' a c a' c' p q :=
  ⟨h.1.kept hb, h.2.1.kept hb, h.2.2⟩
theorem NewF.rd {B : Nat} {w : World} {a : Option Addr} {c : Nat} {a' : Option Addr} {c' p q : Nat} (h : NewF B w a c a' c' p q) (neg : Bool) : RdF w (.agg #[.bool neg, .slice a (dig p).length c, .bool false, .slice a' (dig q).length c']) neg p q := ⟨a, c, a', c', rfl, h.1, h.2.1⟩
def GivesF (w : World) (neg : Bool) (p q : Nat) (e : Ending) (w' : World) : Prop :=
  ∃ a c a' c', e = .returned (.agg #[.bool neg, .slice a (dig p).length c, .bool false, .slice a' (dig q).length c']) ∧ NewF w.heap.size w' a c a' c' p q ∧ Below w.heap.size w w'
/-- a fraction and an error code -/
def GivesFE (w : World) (neg : Bool) (p q : Nat) (r : Value) (e : Ending) (w' : World) : Prop :=
  ∃ a c a' c', e = .returned (.tuple #[.agg #[.bool neg, .slice a (dig p).length c, .bool false, .slice a' (dig q).length c'], r]) ∧ NewF w.heap.size w' a c a' c' p q ∧ Below w.heap.size w w'

set_option maxRecDepth 100000 in
set_option maxHeartbeats 2000000 in
theorem frac_reduced1 (s1 : Bool) (a a' : Option Addr) (c c' : Nat) (n d : Nat) (w : World) (hx : Rd32 w (.slice a (dig n).length c) (dig n)) (hy : Rd32 w (.slice a' (dig d).length c') (dig d)) (hl : (dig n).length ≤ 1073741824) (hd : 0 < d) (hd2 : d < 4294967296) :
    Calls Tryz.prog 139 #[.agg #[.bool s1, .slice a (dig n).length c], .agg #[.bool false, .slice a' (dig d).length c']] w (GivesF w (s1 && decide (0 < n / Nat.gcd n d)) (n / Nat.gcd n d) (d / Nat.gcd n d)) := by
  have hg0 : 0 < Nat.gcd n d := Nat.gcd_pos_of_pos_right _ hd
  have hgd : Nat.gcd n d ≤ d := Nat.gcd_le_right _ hd
  have hld : (dig d).length ≤ 1073741824 := Nat.le_trans (dig_length_le (k := 1) (by omega)) (by omega)
  have hl1 : (dig (n / Nat.gcd n d)).length ≤ 1073741824 := Nat.le_trans (dig_length_mono (Nat.div_le_self _ _)) hl
  have hl2 : (dig (d / Nat.gcd n d)).length ≤ 1073741824 := Nat.le_trans (dig_length_mono (Nat.div_le_self _ _)) hld
  have HX := hid hx
  have HY := hid hy
  have HC := hid (fun W (hb : Below w.heap.size w W) => frac_common1 _ _ n d W (hx.kept hb) (hy.kept hb) hl hd2)
  have HL := hid hl
  have HLD := hid hld
  have HL1 := hid hl1
  have HL2 := hid hl2
  clear hx hy hl hld hl1 hl2
  generalize Nat.gcd n d = g at *
  have HO1 := hid (fun W v (hb : Below w.heap.size w W) (hv : Rd32 W v (dig g)) => frac_over1 _ v n g W (HX.out.kept hb) hv HL.out hg0 (.inl (by omega)))
  have HO2 := hid (fun W v (hb : Below w.heap.size w W) (hv : Rd32 W v (dig g)) => frac_over1 _ v d g W (HY.out.kept hb) hv HLD.out hg0 (.inl (by omega)))
  generalize (dig n).length = L at *
  generalize (dig d).length = L' at *
  generalize n / g = p at *
  generalize d / g = q at *
  go_enter Tryz.func139, Tryz.ntmps139
  go_wp2_with fail
  refine (HC.out _ (by repeat' (first | (with_reducible exact Below.refl _ _) | (with_reducible assumption) | (with_reducible refine below_drewN ?_) | (with_reducible refine Below.alloc ?_ ?_ _) | (with_reducible refine Below.drew ?_) | (with_reducible refine Below.setCell ?_ ?_ _) | (with_reducible refine Below.trans ?_ (Below.mono (by with_reducible assumption) ?_)) | go_size))).mono ?_
  rintro e w1 ⟨v1, rfl, hv1, hb1⟩
  have HV1 := hid hv1
  have HB1 := hid hb1
  have hz1 := hb1.size
  have k0 := cell_later hb1 (a := ⟨w.heap.size, 0, none⟩) (v := .bool s1) (by go_cell)
  have k1 := cell_later hb1 (a := ⟨w.heap.size, 1, none⟩) (v := .slice a L c) (by go_cell)
  have k2 := cell_later hb1 (a := ⟨w.heap.size + 1, 0, none⟩) (v := .bool false) (by go_cell)
  have k3 := cell_later hb1 (a := ⟨w.heap.size + 1, 1, none⟩) (v := .slice a' L' c') (by go_cell)
  have k4 := cell_later hb1 (a := ⟨w.heap.size + 1 + 1, 0, none⟩) (v := .bool false) (by go_cell)
  have k5 := cell_later hb1 (a := ⟨w.heap.size + 1 + 1, 1, none⟩) (v := .slice none 0 0) (by go_cell)
  have k6 := cell_later hb1 (a := ⟨w.heap.size + 1 + 1, 2, none⟩) (v := .bool false) (by go_cell)
  have k7 := cell_later hb1 (a := ⟨w.heap.size + 1 + 1, 3, none⟩) (v := .slice none 0 0) (by go_cell)
  have fk4 := frozen_later hb1 (a := ⟨w.heap.size + 1 + 1, 0, none⟩) (v := .bool false) (by go_cell) (by simp [go_sem])
  have fk5 := frozen_later hb1 (a := ⟨w.heap.size + 1 + 1, 1, none⟩) (v := .slice none 0 0) (by go_cell) (by simp [go_sem])
  have fk6 := frozen_later hb1 (a := ⟨w.heap.size + 1 + 1, 2, none⟩) (v := .bool false) (by go_cell) (by simp [go_sem])
  have fk7 := frozen_later hb1 (a := ⟨w.heap.size + 1 + 1, 3, none⟩) (v := .slice none 0 0) (by go_cell) (by simp [go_sem])
  have hA1 : Below w.heap.size w w1 := by repeat' (first | (with_reducible exact Below.refl _ _) | (with_reducible assumption) | (with_reducible refine below_drewN ?_) | (with_reducible refine Below.alloc ?_ ?_ _) | (with_reducible refine Below.drew ?_) | (with_reducible refine Below.setCell ?_ ?_ _) | (with_reducible refine Below.trans ?_ (Below.mono (by with_reducible assumption) ?_)) | go_size)
  have HA1 := hid hA1
  obtain ⟨ag, Lg, cg, rfl, _⟩ := HV1.out.len
  have HG := hid hv1.rd
  clear hv1 hb1 hA1
  simp at hz1
  go_wp2_with fail
  refine (HO1.out _ _ HA1.out HG.out).mono ?_
  rintro e w2 ⟨a2, c2, a3, c3, rfl, hr1, hr2, ho1, ho2, hb2⟩
  have HP := hid hr1
  have HPO := hid ho1
  have HB2 := hid hb2
  have hz2 := hb2.size
  have j0 := cell_later hb2 k0
  have j1 := cell_later hb2 k1
  have j2 := cell_later hb2 k2
  have j3 := cell_later hb2 k3
  have j4 := cell_later hb2 k4
  have j5 := cell_later hb2 k5
  have j6 := cell_later hb2 k6
  have j7 := cell_later hb2 k7
  have fj4 := frozen_later hb2 k4 fk4
  have fj5 := frozen_later hb2 k5 fk5
  have fj6 := frozen_later hb2 k6 fk6
  have fj7 := frozen_later hb2 k7 fk7
  have hA2 : Below w.heap.size w w2 := by have h := HA1.out; repeat' (first | (with_reducible exact Below.refl _ _) | (with_reducible assumption) | (with_reducible refine below_drewN ?_) | (with_reducible refine Below.alloc ?_ ?_ _) | (with_reducible refine Below.drew ?_) | (with_reducible refine Below.setCell ?_ ?_ _) | (with_reducible refine Below.trans ?_ (Below.mono (by with_reducible assumption) ?_)) | go_size)
  have HA2 := hid hA2
  clear hr1 hr2 ho1 ho2 hb2 hA2
  go_wp2_with fail
  refine (HO2.out _ _ HA2.out (HG.out.kept HB2.out)).mono ?_
  rintro e w3 ⟨a4, c4, a5, c5, rfl, hr1, hr2, ho1, ho2, hb3⟩
  have HQ := hid hr1
  have HQO := hid ho1
  have HB3 := hid hb3
  have hz3 := hb3.size
  have m0 := cell_later hb3 j0
  have m1 := cell_later hb3 j1
  have m2 := cell_later hb3 j2
  have m3 := cell_later hb3 j3
  have m4 := cell_later hb3 j4
  have m5 := cell_later hb3 j5
  have m6 := cell_later hb3 j6
  have m7 := cell_later hb3 j7
  have fm4 := frozen_later hb3 j4 fj4
  have fm5 := frozen_later hb3 j5 fj5
  have fm6 := frozen_later hb3 j6 fj6
  have fm7 := frozen_later hb3 j7 fj7
  clear hr1 hr2 ho1 ho2 hb3
  go_wp2_with fail
  refine (frac_signed _ _ p _ (HP.out.kept HB3.out) HL1.out).mono ?_
  rintro e w4 ⟨a6, c6, rfl, hr1, ho1, hb4⟩
  have HR1 := hid hr1
  have HRO1 := hid (fun R hR => ho1 R hR (fun u hu => by cases hu))
  have HB4 := hid hb4
  have hz4 := hb4.size
  have n0 := cell_later hb4 m0
  have n1 := cell_later hb4 m1
  have n2 := cell_later hb4 m2
  have n3 := cell_later hb4 m3
  have n4 := cell_later hb4 m4
  have n5 := cell_later hb4 m5
  have n6 := cell_later hb4 m6
  have n7 := cell_later hb4 m7
  have fn4 := frozen_later hb4 m4 fm4
  have fn5 := frozen_later hb4 m5 fm5
  have fn6 := frozen_later hb4 m6 fm6
  have fn7 := frozen_later hb4 m7 fm7
  clear hr1 ho1 hb4
  go_wp2_with fail
  refine (frac_signed _ _ q _ (HQ.out.kept HB4.out) HL2.out).mono ?_
  rintro e w5 ⟨a7, c7, rfl, hr1, ho1, hb5⟩
  have HR2 := hid hr1
  have HRO2 := hid (fun R hR => ho1 R hR (fun u hu => by cases hu))
  have HB5 := hid hb5
  have hz5 := hb5.size
  have o0 := cell_later hb5 n0
  have o1 := cell_later hb5 n1
  have o2 := cell_later hb5 n2
  have o3 := cell_later hb5 n3
  have o4 := cell_later hb5 n4
  have o5 := cell_later hb5 n5
  have o6 := cell_later hb5 n6
  have o7 := cell_later hb5 n7
  have fo4 := frozen_later hb5 n4 fn4
  have fo5 := frozen_later hb5 n5 fn5
  have fo6 := frozen_later hb5 n6 fn6
  have fo7 := frozen_later hb5 n7 fn7
  clear hr1 ho1 hb5
  go_wp2
  refine bodyPost_ret (by simp [results, Tryz.results139, go_sem, o4, o5, o6, o7]; rfl) rfl ?_
  have hN : NewF (w.heap.size + 1 + 1 + 1) w5 a6 c6 a7 c7 p q := ⟨HR1.out.kept HB5.out, HR2.out, fun R hR => HRO1.out R (by omega), fun R hR => HRO2.out R (by omega)⟩
  exact ⟨a6, c6, a7, c7, by first | rfl | simp, ((((hN.setCell (by simp)).setCell (by simp)).setCell (by simp)).setCell (by simp)).mono (by omega), by have h2 := HA2.out; have h3 := HB3.out; have h4 := HB4.out; have h5 := HB5.out; repeat' (first | (with_reducible exact Below.refl _ _) | (with_reducible assumption) | (with_reducible refine below_drewN ?_) | (with_reducible refine Below.alloc ?_ ?_ _) | (with_reducible refine Below.drew ?_) | (with_reducible refine Below.setCell ?_ ?_ _) | (with_reducible refine Below.trans ?_ (Below.mono (by with_reducible assumption) ?_)) | go_size)⟩

set_option maxRecDepth 100000 in
set_option maxHeartbeats 2000000 in
theorem frac_Make1 (s1 : Bool) (a a' : Option Addr) (c c' : Nat) (n d : Nat) (w : World) (hx : Rd32 w (.slice a (dig n).length c) (dig n)) (hy : Rd32 w (.slice a' (dig d).length c') (dig d)) (hok : okBig s1 (dig n) = true) (hl : (dig n).length ≤ 1073741824) (hd : 0 < d) (hd2 : d < 4294967296) :
    Calls Tryz.prog 118 #[.agg #[.bool s1, .slice a (dig n).length c], .agg #[.bool false, .slice a' (dig d).length c']] w (GivesFE w (s1 && decide (0 < n / Nat.gcd n d)) (n / Nat.gcd n d) (d / Nat.gcd n d) (.int .i64 0)) := by
  have hok2 : okBig false (dig d) = true := okBig_false d (Nat.le_trans (dig_length_le (k := 1) (by omega)) (by omega))
  have hb2 := fun W g hb hg h0 h1 h2 h3 => frac_bigs2 g s1 false (dig n) (dig d) a a' c c' W hg h0 h1 h2 h3 (hx.kept hb) (hy.kept hb)
  rw [hok, hok2] at hb2
  have HBG := hid hb2
  have HRD := hid (fun W (hb : Below w.heap.size w W) => frac_reduced1 s1 a a' c c' n d W (hx.kept hb) (hy.kept hb) hl hd hd2)
  have hLp := dig_length_pos.2 hd
  clear hx hy hb2 hok hok2 hl
  generalize (dig n).length = L at *
  generalize (dig d).length = L' at *
  generalize n / Nat.gcd n d = p at *
  generalize d / Nat.gcd n d = q at *
  have hL0 : ((L' : Int) == 0) = false := by simp; omega
  go_enter Tryz.func118, Tryz.ntmps118
  go_wp2_with fail
  refine (HBG.out _ _ (by repeat' (first | (with_reducible exact Below.refl _ _) | (with_reducible assumption) | (with_reducible refine below_drewN ?_) | (with_reducible refine Below.alloc ?_ ?_ _) | (with_reducible refine Below.drew ?_) | (with_reducible refine Below.setCell ?_ ?_ _) | (with_reducible refine Below.trans ?_ (Below.mono (by with_reducible assumption) ?_)) | go_size)) (by simp) (by go_cell) (by go_cell) (by go_cell) (by go_cell)).mono ?_
  rintro e w1 ⟨rfl, hb1⟩
  have HB1 := hid hb1
  have hz1 := hb1.size
  have k0 := cell_later hb1 (a := ⟨w.heap.size, 0, none⟩) (v := .bool s1) (by go_cell)
  have k1 := cell_later hb1 (a := ⟨w.heap.size, 1, none⟩) (v := .slice a L c) (by go_cell)
  have k2 := cell_later hb1 (a := ⟨w.heap.size + 1, 0, none⟩) (v := .bool false) (by go_cell)
  have k3 := cell_later hb1 (a := ⟨w.heap.size + 1, 1, none⟩) (v := .slice a' L' c') (by go_cell)
  have k4 := cell_later hb1 (a := ⟨w.heap.size + 1 + 1, 0, none⟩) (v := .bool false) (by go_cell)
  have k5 := cell_later hb1 (a := ⟨w.heap.size + 1 + 1, 1, none⟩) (v := .slice none 0 0) (by go_cell)
  have k6 := cell_later hb1 (a := ⟨w.heap.size + 1 + 1, 2, none⟩) (v := .bool false) (by go_cell)
  have k7 := cell_later hb1 (a := ⟨w.heap.size + 1 + 1, 3, none⟩) (v := .slice none 0 0) (by go_cell)
  have fk4 := frozen_later hb1 (a := ⟨w.heap.size + 1 + 1, 0, none⟩) (v := .bool false) (by go_cell) (by simp [go_sem])
  have fk5 := frozen_later hb1 (a := ⟨w.heap.size + 1 + 1, 1, none⟩) (v := .slice none 0 0) (by go_cell) (by simp [go_sem])
  have fk6 := frozen_later hb1 (a := ⟨w.heap.size + 1 + 1, 2, none⟩) (v := .bool false) (by go_cell) (by simp [go_sem])
  have fk7 := frozen_later hb1 (a := ⟨w.heap.size + 1 + 1, 3, none⟩) (v := .slice none 0 0) (by go_cell) (by simp [go_sem])
  have hA1 : Below w.heap.size w w1 := by repeat' (first | (with_reducible exact Below.refl _ _) | (with_reducible assumption) | (with_reducible refine below_drewN ?_) | (with_reducible refine Below.alloc ?_ ?_ _) | (with_reducible refine Below.drew ?_) | (with_reducible refine Below.setCell ?_ ?_ _) | (with_reducible refine Below.trans ?_ (Below.mono (by with_reducible assumption) ?_)) | go_size)
  have HA1 := hid hA1
  clear hb1 hA1
  simp at hz1
  go_wp2_with fail
  refine (HRD.out _ HA1.out).mono ?_
  rintro e w2 ⟨a2, c2, a3, c3, rfl, hN, hb2⟩
  have HN := hid hN
  have HB2 := hid hb2
  have hz2 := hb2.size
  have j0 := cell_later hb2 k0
  have j1 := cell_later hb2 k1
  have j2 := cell_later hb2 k2
  have j3 := cell_later hb2 k3
  have j4 := cell_later hb2 k4
  have j5 := cell_later hb2 k5
  have j6 := cell_later hb2 k6
  have j7 := cell_later hb2 k7
  have fj4 := frozen_later hb2 k4 fk4
  have fj5 := frozen_later hb2 k5 fk5
  have fj6 := frozen_later hb2 k6 fk6
  have fj7 := frozen_later hb2 k7 fk7
  clear hN hb2
  go_wp2
  refine bodyPost_ret (by simp [results, Tryz.results118, go_sem, j4, j5, j6, j7]; rfl) rfl ?_
  exact ⟨a2, c2, a3, c3, by first | rfl | simp, ((((HN.out.setCell (by simp; omega)).setCell (by simp; omega)).setCell (by simp; omega)).setCell (by simp; omega)).mono (by omega), by have h2 := HA1.out; have h3 := HB2.out; repeat' (first | (with_reducible exact Below.refl _ _) | (with_reducible assumption) | (with_reducible refine below_drewN ?_) | (with_reducible refine Below.alloc ?_ ?_ _) | (with_reducible refine Below.drew ?_) | (with_reducible refine Below.setCell ?_ ?_ _) | (with_reducible refine Below.trans ?_ (Below.mono (by with_reducible assumption) ?_)) | go_size)⟩

end Go.Proofs.YtfcccldofaleoaaGreatDoor.Fr

namespace Go.Proofs.YtfcccldofaleoaaGreatDoor.Fr
open Go.RowKit

set_option maxRecDepth 100000 in
set_option maxHeartbeats 2000000 in
theorem frac_Of1 (n d : Nat) (w : World) (hn : n < 9223372036854775808) (hd : 0 < d) (hd2 : d < 4294967296) :
    Calls Tryz.prog 83 #[.int .i64 (n : Int), .int .i64 (d : Int)] w (GivesFE w false (n / Nat.gcd n d) (d / Nat.gcd n d) (.int .i64 0)) := by
  have hl2 := dig_length_64 (n := n) (by omega)
  have hok : okBig false (dig n) = true := okBig_false n (by omega)
  have HM := hid (fun W a a' c c' hx hy => frac_Make1 false a a' c c' n d W hx hy hok (Nat.le_trans hl2 (by omega)) hd hd2)
  clear hok hl2
  generalize n / Nat.gcd n d = p at *
  generalize d / Nat.gcd n d = q at *
  go_enter Tryz.func83, Tryz.ntmps83
  go_wp2_with fail
  refine (frac_FromInt n _ hn).mono ?_
  rintro e w1 ⟨a1, c1, rfl, hr1, ho1, hb1⟩
  have HR1 := hid hr1
  have HB1 := hid hb1
  have hz1 := hb1.size
  have k0 := cell_later hb1 (a := ⟨w.heap.size, 0, none⟩) (v := .bool false) (by go_cell)
  have k1 := cell_later hb1 (a := ⟨w.heap.size, 1, none⟩) (v := .slice none 0 0) (by go_cell)
  have k2 := cell_later hb1 (a := ⟨w.heap.size, 2, none⟩) (v := .bool false) (by go_cell)
  have k3 := cell_later hb1 (a := ⟨w.heap.size, 3, none⟩) (v := .slice none 0 0) (by go_cell)
  have fk0 := frozen_later hb1 (a := ⟨w.heap.size, 0, none⟩) (v := .bool false) (by go_cell) (by simp [go_sem])
  have fk1 := frozen_later hb1 (a := ⟨w.heap.size, 1, none⟩) (v := .slice none 0 0) (by go_cell) (by simp [go_sem])
  have fk2 := frozen_later hb1 (a := ⟨w.heap.size, 2, none⟩) (v := .bool false) (by go_cell) (by simp [go_sem])
  have fk3 := frozen_later hb1 (a := ⟨w.heap.size, 3, none⟩) (v := .slice none 0 0) (by go_cell) (by simp [go_sem])
  have hA1 : Below w.heap.size w w1 := by repeat' (first | (with_reducible exact Below.refl _ _) | (with_reducible assumption) | (with_reducible refine below_drewN ?_) | (with_reducible refine Below.alloc ?_ ?_ _) | (with_reducible refine Below.drew ?_) | (with_reducible refine Below.setCell ?_ ?_ _) | (with_reducible refine Below.trans ?_ (Below.mono (by with_reducible assumption) ?_)) | go_size)
  have HA1 := hid hA1
  clear hb1 hA1 hr1 ho1
  simp at hz1
  go_wp2_with fail
  refine (frac_FromInt d _ (by omega)).mono ?_
  rintro e w2 ⟨a2, c2, rfl, hr1, ho1, hb2⟩
  have HR2 := hid hr1
  have HB2 := hid hb2
  have hz2 := hb2.size
  have j0 := cell_later hb2 k0
  have j1 := cell_later hb2 k1
  have j2 := cell_later hb2 k2
  have j3 := cell_later hb2 k3
  have fj0 := frozen_later hb2 k0 fk0
  have fj1 := frozen_later hb2 k1 fk1
  have fj2 := frozen_later hb2 k2 fk2
  have fj3 := frozen_later hb2 k3 fk3
  clear hr1 ho1 hb2
  go_wp2_with fail
  refine (HM.out _ _ _ _ _ (HR1.out.kept HB2.out) HR2.out).mono ?_
  rintro e w3 ⟨a3, c3, a4, c4, rfl, hN, hb3⟩
  have HN := hid hN
  have HB3 := hid hb3
  have hz3 := hb3.size
  have m0 := cell_later hb3 j0
  have m1 := cell_later hb3 j1
  have m2 := cell_later hb3 j2
  have m3 := cell_later hb3 j3
  have fm0 := frozen_later hb3 j0 fj0
  have fm1 := frozen_later hb3 j1 fj1
  have fm2 := frozen_later hb3 j2 fj2
  have fm3 := frozen_later hb3 j3 fj3
  clear hN hb3
  go_wp2
  refine bodyPost_ret (by simp [results, Tryz.results83, go_sem, m0, m1, m2, m3]; rfl) rfl ?_
  exact ⟨a3, c3, a4, c4, by first | rfl | simp, ((((HN.out.setCell (by simp; omega)).setCell (by simp; omega)).setCell (by simp; omega)).setCell (by simp; omega)).mono (by omega), by have h1 := HA1.out; have h2 := HB2.out; have h3 := HB3.out; repeat' (first | (with_reducible exact Below.refl _ _) | (with_reducible assumption) | (with_reducible refine below_drewN ?_) | (with_reducible refine Below.alloc ?_ ?_ _) | (with_reducible refine Below.drew ?_) | (with_reducible refine Below.setCell ?_ ?_ _) | (with_reducible refine Below.trans ?_ (Below.mono (by with_reducible assumption) ?_)) | go_size)⟩

end Go.Proofs.YtfcccldofaleoaaGreatDoor.Fr
