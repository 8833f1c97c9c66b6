/- Contracts of package fraction: FromInt, bigs, reduced, Make, Of. -/
import Derived.Test.YtfcccldofaleoaaGreatDoorFc
namespace Go.Proofs.YtfcccldofaleoaaGreatDoor.Fr
open Go.RowKit

set_option maxHeartbeats 1000000 in
theorem frac_bigs2 (g : Nat) (n1 n2 : Bool) (xs1 xs2 : List Nat) (a1 a2 : Option Addr) (c1 c2 : Nat) (w : World) (hg : g < w.heap.size)
    (h0 : w.cell? ⟨g, 0, none⟩ = some (.bool n1)) (h1 : w.cell? ⟨g, 1, none⟩ = some (.slice a1 xs1.length c1)) (h2 : w.cell? ⟨g, 2, none⟩ = some (.bool n2)) (h3 : w.cell? ⟨g, 3, none⟩ = some (.slice a2 xs2.length c2))
    (hr1 : Rd32 w (.slice a1 xs1.length c1) xs1) (hr2 : Rd32 w (.slice a2 xs2.length c2) xs2) :
    Calls Tryz.prog 138 #[.slice (some ⟨g, 0, none⟩) 2 2] w (Ret w (.bool (okBig n1 xs1 && okBig n2 xs2))) := by
  have HR1 := hid hr1
  have HR2 := hid hr2
  have HV1 := hid (fun W (hb : Below w.heap.size w W) => frac_ValidBig (.agg #[.bool n1, .slice a1 xs1.length c1]) n1 xs1 W ⟨a1, c1, rfl, hr1.kept hb⟩)
  have HV2 := hid (fun W (hb : Below w.heap.size w W) => frac_ValidBig (.agg #[.bool n2, .slice a2 xs2.length c2]) n2 xs2 W ⟨a2, c2, rfl, hr2.kept hb⟩)
  clear hr1 hr2
  generalize xs1.length = l1 at *
  generalize xs2.length = l2 at *
  generalize okBig n1 xs1 = k1 at *
  generalize okBig n2 xs2 = k2 at *
  go_enter Tryz.func138, Tryz.ntmps138
  go_wp2
  refine wp_loop_rounds 3 ?_
  rw [rounds_succ]
  go_wp2_with fail
  refine (HV1.out _ (by repeat' (first | (with_reducible exact Below.refl _ _) | (with_reducible assumption) | (with_reducible refine below_drewN ?_) | (with_reducible refine Below.alloc ?_ ?_ _) | (with_reducible refine Below.drew ?_) | (with_reducible refine Below.setCell ?_ ?_ _) | (with_reducible refine Below.trans ?_ (Below.mono (by with_reducible assumption) ?_)) | go_size))).mono ?_
  rintro e w1 ⟨rfl, hb1⟩
  have HB1 := hid hb1
  have hz1 := hb1.size
  clear hb1
  simp at hz1
  have q2 := cell_later HB1.out (a := ⟨g, 2, none⟩) (v := .bool n2) (by go_cell)
  have q3 := cell_later HB1.out (a := ⟨g, 3, none⟩) (v := .slice a2 l2 c2) (by go_cell)
  cases k1
  · go_wp2
    go_ret
    exact ⟨by simp, by have hb1 := HB1.out; repeat' (first | (with_reducible exact Below.refl _ _) | (with_reducible assumption) | (with_reducible refine below_drewN ?_) | (with_reducible refine Below.alloc ?_ ?_ _) | (with_reducible refine Below.drew ?_) | (with_reducible refine Below.setCell ?_ ?_ _) | (with_reducible refine Below.trans ?_ (Below.mono (by with_reducible assumption) ?_)) | go_size)⟩
  · go_wp2
    rw [rounds_succ]
    go_wp2_with fail
    have hbA : Below w.heap.size w w1 := by have hb1 := HB1.out; repeat' (first | (with_reducible exact Below.refl _ _) | (with_reducible assumption) | (with_reducible refine below_drewN ?_) | (with_reducible refine Below.alloc ?_ ?_ _) | (with_reducible refine Below.drew ?_) | (with_reducible refine Below.setCell ?_ ?_ _) | (with_reducible refine Below.trans ?_ (Below.mono (by with_reducible assumption) ?_)) | go_size)
    refine (HV2.out _ (by repeat' (first | (with_reducible exact Below.refl _ _) | (with_reducible assumption) | (with_reducible refine below_drewN ?_) | (with_reducible refine Below.alloc ?_ ?_ _) | (with_reducible refine Below.drew ?_) | (with_reducible refine Below.setCell ?_ ?_ _) | (with_reducible refine Below.trans ?_ (Below.mono (by with_reducible assumption) ?_)) | go_size))).mono ?_
    rintro e w2 ⟨rfl, hb2⟩
    have HB2 := hid hb2
    have HBA := hid hbA
    have hz2 := hb2.size
    clear hb2 hbA
    simp at hz2
    cases k2
    · go_wp2
      go_ret
      exact ⟨by simp, by have hb1 := HBA.out; have hb2 := HB2.out; repeat' (first | (with_reducible exact Below.refl _ _) | (with_reducible assumption) | (with_reducible refine below_drewN ?_) | (with_reducible refine Below.alloc ?_ ?_ _) | (with_reducible refine Below.drew ?_) | (with_reducible refine Below.setCell ?_ ?_ _) | (with_reducible refine Below.trans ?_ (Below.mono (by with_reducible assumption) ?_)) | go_size)⟩
    · go_wp2
      rw [rounds_succ]
      go_wp2
      go_ret
      exact ⟨by simp, by have hb1 := HBA.out; have hb2 := HB2.out; repeat' (first | (with_reducible exact Below.refl _ _) | (with_reducible assumption) | (with_reducible refine below_drewN ?_) | (with_reducible refine Below.alloc ?_ ?_ _) | (with_reducible refine Below.drew ?_) | (with_reducible refine Below.setCell ?_ ?_ _) | (with_reducible refine Below.trans ?_ (Below.mono (by with_reducible assumption) ?_)) | go_size)⟩

/-- digits of small numbers -/
theorem okBig_dig (neg : Bool) (n : Nat) (hn : n < 4294967296 ^ 256) (h0 : n = 0 → neg = false) : okBig neg (dig n) = true := by
  unfold okBig
  have hl := dig_length_le hn
  by_cases hz : n = 0
  · subst hz
    rw [dig_zero]; simp [h0 rfl]
  · have h1 := lead_dig n (dig_length_pos.2 (by omega))
    have h2 := dig_length_pos.2 (show 0 < n by omega)
    simp only [decide_eq_true_eq]
    exact ⟨hl, .inr ⟨h2, h1⟩⟩
theorem okBig_false (n : Nat) (hn : (dig n).length ≤ 256) : okBig false (dig n) = true := by
  unfold okBig
  by_cases hz : n = 0
  · subst hz
    rw [dig_zero]; simp
  · have h1 := lead_dig n (dig_length_pos.2 (by omega))
    have h2 := dig_length_pos.2 (show 0 < n by omega)
    simp only [decide_eq_true_eq]
    exact ⟨hn, .inr ⟨h2, h1⟩⟩
theorem dig_length_64 {n : Nat} (h : n < 18446744073709551616) : (dig n).length ≤ 2 := dig_length_le (k := 2) (by omega)

set_option maxHeartbeats 1000000 in
theorem frac_FromInt (n : Nat) (w : World) (h : n < 9223372036854775808) :
    Calls Tryz.prog 119 #[.int .i64 (n : Int)] w (GivesZ [] w false n) := by
  have hl : (dig n).length ≤ 1073741824 := Nat.le_trans (dig_length_64 (by omega)) (by omega)
  go_enter Tryz.func119, Tryz.ntmps119
  go_wp2_with fail
  refine (frac_natural n _ (by omega)).mono ?_
  rintro e w1 ⟨a1, c1, rfl, hr1, ho1, hb1⟩
  have HR1 := hid hr1
  have HB1 := hid hb1
  have hz1 := hb1.size
  have q0 := cell_later hb1 (a := ⟨w.heap.size, 0, none⟩) (v := .bool false) (by go_cell)
  have q1 := cell_later hb1 (a := ⟨w.heap.size, 1, none⟩) (v := .slice none 0 0) (by go_cell)
  have f0 := frozen_later hb1 (a := ⟨w.heap.size, 0, none⟩) (v := .bool false) (by go_cell) (by simp [go_sem])
  have f1 := frozen_later hb1 (a := ⟨w.heap.size, 1, none⟩) (v := .slice none 0 0) (by go_cell) (by simp [go_sem])
  clear hr1 ho1 hb1
  simp at hz1
  go_wp2_with fail
  refine (frac_signed false _ n _ HR1.out hl).mono ?_
  rintro e w2 ⟨a2, c2, rfl, hr2, ho2, hb2⟩
  have HR2 := hid hr2
  have HO2 := hid (fun R hR => ho2 R hR (fun u hu => by cases hu))
  have HB2 := hid hb2
  have hz2 := hb2.size
  have q2 := cell_later hb2 q0
  have q3 := cell_later hb2 q1
  have f2 := frozen_later hb2 q0 f0
  have f3 := frozen_later hb2 q1 f1
  clear hr2 ho2 hb2
  go_wp2
  refine bodyPost_ret (by simp [results, Tryz.results119, go_sem, q2, q3]; rfl) rfl ?_
  exact ⟨a2, c2, by trivial, (HR2.out.setCell (HO2.out _ (by simp; omega))).setCell (HO2.out _ (by simp; omega)), fun R hR _ => HO2.out R (by omega), by have hb1 := HB1.out; have hb2 := HB2.out; repeat' (first | (with_reducible exact Below.refl _ _) | (with_reducible assumption) | (with_reducible refine below_drewN ?_) | (with_reducible refine Below.alloc ?_ ?_ _) | (with_reducible refine Below.drew ?_) | (with_reducible refine Below.setCell ?_ ?_ _) | (with_reducible refine Below.trans ?_ (Below.mono (by with_reducible assumption) ?_)) | go_size)⟩

end Go.Proofs.YtfcccldofaleoaaGreatDoor.Fr
