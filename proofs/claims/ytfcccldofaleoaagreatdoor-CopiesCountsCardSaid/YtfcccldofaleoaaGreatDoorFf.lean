/- Contracts of fraction.Of (small numbers), containment.Valid and containment.Score. -/
import Derived.Test.YtfcccldofaleoaaGreatDoorFe
namespace Go.Proofs.YtfcccldofaleoaaGreatDoor.Fr
open Go.RowKit

set_option maxRecDepth 100000 in
set_option maxHeartbeats 2000000 in
theorem frac_Of1 (n d : Nat) (w : World) (hn : n < 9223372036854775808) (hd : 0 < d) (hd2 : d < 4294967296) :
    Calls Tryz.prog 83 #[.int .i64 (n : Int), .int .i64 (d : Int)] w (GivesFE w false (n / Nat.gcd n d) (d / Nat.gcd n d) (.int .i64 0)) := by
  have hl2 := dig_length_64 (n := n) (by omega)
  have hok : okBig false (dig n) = true := okBig_false n (by omega)
  have HM := hid (fun W a a' c c' hx hy => frac_Make1 false a a' c c' n d W hx hy hok (Nat.le_trans hl2 (by omega)) hd hd2)
  clear hok hl2
  generalize n / Nat.gcd n d = p at *
  generalize d / Nat.gcd n d = q at *
  go_enter Tryz.func83, Tryz.ntmps83
  go_wp2_with fail
  refine (frac_FromInt n _ hn).mono ?_
  rintro e w1 ⟨a1, c1, rfl, hr1, ho1, hb1⟩
  have HR1 := hid hr1
  have HB1 := hid hb1
  have hz1 := hb1.size
  have k0 := cell_later hb1 (a := ⟨w.heap.size, 0, none⟩) (v := .bool false) (by go_cell)
  have k1 := cell_later hb1 (a := ⟨w.heap.size, 1, none⟩) (v := .slice none 0 0) (by go_cell)
  have k2 := cell_later hb1 (a := ⟨w.heap.size, 2, none⟩) (v := .bool false) (by go_cell)
  have k3 := cell_later hb1 (a := ⟨w.heap.size, 3, none⟩) (v := .slice none 0 0) (by go_cell)
  have fk0 := frozen_later hb1 (a := ⟨w.heap.size, 0, none⟩) (v := .bool false) (by go_cell) (by simp [go_sem])
  have fk1 := frozen_later hb1 (a := ⟨w.heap.size, 1, none⟩) (v := .slice none 0 0) (by go_cell) (by simp [go_sem])
  have fk2 := frozen_later hb1 (a := ⟨w.heap.size, 2, none⟩) (v := .bool false) (by go_cell) (by simp [go_sem])
  have fk3 := frozen_later hb1 (a := ⟨w.heap.size, 3, none⟩) (v := .slice none 0 0) (by go_cell) (by simp [go_sem])
  have hA1 : Below w.heap.size w w1 := by repeat' (first | (with_reducible exact Below.refl _ _) | (with_reducible assumption) | (with_reducible refine below_drewN ?_) | (with_reducible refine Below.alloc ?_ ?_ _) | (with_reducible refine Below.drew ?_) | (with_reducible refine Below.setCell ?_ ?_ _) | (with_reducible refine Below.trans ?_ (Below.mono (by with_reducible assumption) ?_)) | go_size)
  have HA1 := hid hA1
  clear hb1 hA1 hr1 ho1
  simp at hz1
  go_wp2_with fail
  refine (frac_FromInt d _ (by omega)).mono ?_
  rintro e w2 ⟨a2, c2, rfl, hr1, ho1, hb2⟩
  have HR2 := hid hr1
  have HB2 := hid hb2
  have hz2 := hb2.size
  have j0 := cell_later hb2 k0
  have j1 := cell_later hb2 k1
  have j2 := cell_later hb2 k2
  have j3 := cell_later hb2 k3
  have fj0 := frozen_later hb2 k0 fk0
  have fj1 := frozen_later hb2 k1 fk1
  have fj2 := frozen_later hb2 k2 fk2
  have fj3 := frozen_later hb2 k3 fk3
  clear hr1 ho1 hb2
  go_wp2_with fail
  refine (HM.out _ _ _ _ _ (HR1.out.kept HB2.out) HR2.out).mono ?_
  rintro e w3 ⟨a3, c3, a4, c4, rfl, hN, hb3⟩
  have HN := hid hN
  have HB3 := hid hb3
  have hz3 := hb3.size
  have m0 := cell_later hb3 j0
  have m1 := cell_later hb3 j1
  have m2 := cell_later hb3 j2
  have m3 := cell_later hb3 j3
  have fm0 := frozen_later hb3 j0 fj0
  have fm1 := frozen_later hb3 j1 fj1
  have fm2 := frozen_later hb3 j2 fj2
  have fm3 := frozen_later hb3 j3 fj3
  clear hN hb3
  go_wp2
  refine bodyPost_ret (by simp [results, Tryz.results83, go_sem, m0, m1, m2, m3]; rfl) rfl ?_
  exact ⟨a3, c3, a4, c4, by first | rfl | simp, ((((HN.out.setCell (by simp; omega)).setCell (by simp; omega)).setCell (by simp; omega)).setCell (by simp; omega)).mono (by omega), by have h1 := HA1.out; have h2 := HB2.out; have h3 := HB3.out; repeat' (first | (with_reducible exact Below.refl _ _) | (with_reducible assumption) | (with_reducible refine below_drewN ?_) | (with_reducible refine Below.alloc ?_ ?_ _) | (with_reducible refine Below.drew ?_) | (with_reducible refine Below.setCell ?_ ?_ _) | (with_reducible refine Below.trans ?_ (Below.mono (by with_reducible assumption) ?_)) | go_size)⟩

end Go.Proofs.YtfcccldofaleoaaGreatDoor.Fr
