/- Contracts of the reference's sum, product and negative of big integers. Contracts of the reference: Times, Minus, Whole, Valid. -/
import Derived.Test.YtikiimlmoalbcaaGreatDoorCoFae
import Derived.Test.YtikiimlmoalbcaaGreatDoorCoFad
set_option linter.unusedVariables false
set_option linter.unusedSimpArgs false
namespace Go.Proofs.YtikiimlmoalbcaaGreatDoor.Fr
open Go.RowKit
def RdZ (w : World) (v : Value) (z : Int) : Prop :=
  ∃ a c, v = .agg #[.bool (decide (z < 0)), .slice a (dig z.natAbs).length c] ∧ Rd32 w (.slice a (dig z.natAbs).length c) (dig z.natAbs)
theorem RdZ.kept {w w' : World} {v : Value} {z : Int} (h : RdZ w v z) (hb : Below w.heap.size w w') : RdZ w' v z := by
  obtain ⟨a, c, e, h⟩ := h; exact ⟨a, c, e, h.kept hb⟩
theorem RdZ.alloc {w : World} {v : Value} {z : Int} (h : RdZ w v z) {o : Obj} : RdZ (w.alloc o) v z := h.kept ((Below.refl _ _).alloc (Nat.le_refl _) _)
def GivesI (us : List Value) (w : World) (z : Int) (e : Ending) (w' : World) : Prop :=
  ∃ a c, e = .returned (.agg #[.bool (decide (z < 0)), .slice a (dig z.natAbs).length c]) ∧ Rd32 w' (.slice a (dig z.natAbs).length c) (dig z.natAbs) ∧
    (∀ R, R < w.heap.size → (∀ u ∈ us, Off R u) → Off R (.slice a (dig z.natAbs).length c)) ∧ Below w.heap.size w w'
theorem givesI_of {us : List Value} {w w' : World} {neg : Bool} {n : Nat} {z : Int} {e : Ending} (h : GivesZ us w neg n e w') (hz : z = if neg then -(n : Int) else (n : Int)) : GivesI us w z e w' := by
  obtain ⟨a, c, rfl, h1, h2, h3⟩ := h
  have hn : z.natAbs = n := by rw [hz]; split <;> omega
  have hs : (neg && decide (0 < n)) = decide (z < 0) := by
    rw [hz]; cases neg <;> simp <;> omega
  exact ⟨a, c, by rw [hs, hn], by rw [hn]; exact h1, by rw [hn]; exact h2, h3⟩
set_option maxRecDepth 100000 in
set_option maxHeartbeats 2000000 in
theorem ref_Plus (u v : Value) (x y : Int) (w : World) (hx : RdZ w u x) (hy : RdZ w v y) (hlx : (dig x.natAbs).length ≤ 1073741824) (hly : (dig y.natAbs).length ≤ 1073741824) :
  Calls Tryz.prog 61 #[u, v] w (GivesI [] w (x + y)) := by
 obtain ⟨a, c, rfl, hx⟩ := hx
 obtain ⟨a', c', rfl, hy⟩ := hy
 have HX := hid hx
 have HY := hid hy
 have HLX := hid hlx
 have HLY := hid hly
 clear hx hy hlx hly
 generalize hn : (dig x.natAbs).length = n at *
 generalize hn' : (dig y.natAbs).length = n' at *
 have HN := hid hn
 have HN' := hid hn'
 clear hn hn'
 by_cases hs : (decide (x < 0)) = (decide (y < 0))
 ·have hs1 : x + y = if decide (x < 0) then -((x.natAbs + y.natAbs : Nat) : Int) else ((x.natAbs + y.natAbs : Nat) : Int) := by
   have h2 : (x < 0) ↔ (y < 0) := by simpa using hs
   by_cases h3 : x < 0
   ·have := h2.1 h3; simp only [h3, decide_true, if_true]; omega
   ·have : ¬ y < 0 := fun h => h3 (h2.2 h)
    simp only [h3, decide_false]; simp only [Bool.false_eq_true, if_false]; omega
  have HS := hid hs1
  clear hs1
  rw [← hs]
  generalize decide (x < 0) = s at *
  clear hs
  go_enter Tryz.func61, Tryz.ntmps61
  go_wp2
  go_region_held3 (fun w' => w'.cell? ⟨w.heap.size, 0, none⟩ = some (.bool s) ∧ w'.cell? ⟨w.heap.size, 1, none⟩ = some (.slice a n c) ∧ w'.cell? ⟨w.heap.size + 1, 1, none⟩ = some (.slice a' n' c')) (first | exact ⟨k0, k1, k2⟩ | exact ⟨j0, j1, j2⟩ | (refine ⟨?_, ?_, ?_⟩ <;> (rw [World.cell?_setCell_other _ _ _ _ (by intro h; injection h with h; omega), World.cell?_setCell_other _ _ _ _ (by intro h; injection h with h; omega)]; assumption)) | go_keep)
   (first
    | (go_at_call 122; go_must ((refine (ref_add _ _ _ _ _ (HX.out.kept (by repeat' (first | (with_reducible exact Below.refl _ _) | (with_reducible assumption) | (with_reducible refine below_drewN ?_) | (with_reducible refine Below.alloc ?_ ?_ _) | (with_reducible refine Below.drew ?_) | (with_reducible refine Below.setCell ?_ ?_ _) | (with_reducible refine Below.trans ?_ (Below.mono (by with_reducible assumption) ?_)) | go_size))) (HY.out.kept (by repeat' (first | (with_reducible exact Below.refl _ _) | (with_reducible assumption) | (with_reducible refine below_drewN ?_) | (with_reducible refine Below.alloc ?_ ?_ _) | (with_reducible refine Below.drew ?_) | (with_reducible refine Below.setCell ?_ ?_ _) | (with_reducible refine Below.trans ?_ (Below.mono (by with_reducible assumption) ?_)) | go_size))) (by rw [HN.out]; exact HLX.out) (by rw [HN'.out]; exact HLY.out)).mono ?_; rintro e w1 ⟨ra, rc, zs, rfl, hr1, hr3, hr2, hr4⟩; rw [val_dig, val_dig] at hr3; have HR1 := hid hr1; have HR2 := hid hr2; have HR3 := hid hr3; have HR4 := hid hr4; have hz1 := hr4.size; clear hr1 hr2 hr3 hr4; simp at hz1; have k0 := cell_later HR4.out (a := ⟨w.heap.size, 0, none⟩) (v := .bool s) (by go_cell); have k1 := cell_later HR4.out (a := ⟨w.heap.size, 1, none⟩) (v := .slice a n c) (by go_cell); have k2 := cell_later HR4.out (a := ⟨w.heap.size + 1, 1, none⟩) (v := .slice a' n' c') (by go_cell); have k8 := cell_later HR4.out (a := ⟨w.heap.size + 1 + 1, 0, none⟩) (v := .bool false) (by go_cell); have k9 := cell_later HR4.out (a := ⟨w.heap.size + 1 + 1, 1, none⟩) (v := .slice none 0 0) (by go_cell); have f8 := frozen_later HR4.out (a := ⟨w.heap.size + 1 + 1, 0, none⟩) (v := .bool false) (by go_cell) (by simp [go_sem]); have f9 := frozen_later HR4.out (a := ⟨w.heap.size + 1 + 1, 1, none⟩) (v := .slice none 0 0) (by go_cell) (by simp [go_sem]))))
    | (go_at_call 114; go_must ((refine (ref_big _ _ _ _ HR1.out).mono ?_; rintro e w2 ⟨ra2, rc2, rfl, hr1, hr2, hr4⟩; rw [HR3.out] at hr1 hr2; rw [HR3.out]; have HP1 := hid hr1; have HP2 := hid hr2; have HP4 := hid hr4; have hz2 := hr4.size; clear hr1 hr2 hr4; have j0 := cell_later HP4.out k0; have j1 := cell_later HP4.out k1; have j2 := cell_later HP4.out k2; have j8 := cell_later HP4.out k8; have j9 := cell_later HP4.out k9; have g8 := frozen_later HP4.out k8 f8; have g9 := frozen_later HP4.out k9 f9))))
  go_wp2
  refine bodyPost_ret (by simp [results, Tryz.results61, go_sem, j8, j9]; rfl) rfl ?_
  have hof : Off (w.heap.size + 1 + 1) _ := HP2.out _ (by omega) (fun u hu => by simp at hu; subst hu; exact HR2.out _ (by simp))
  exact givesI_of (us := []) ⟨ra2, rc2, rfl, (HP1.out.setCell hof).setCell hof, fun R hR _ => HP2.out R (by omega) (fun u hu => by simp at hu; subst hu; exact HR2.out R (by simp; omega)), by have hb4 := HR4.out; have hb5 := HP4.out; repeat' (first | (with_reducible exact Below.refl _ _) | (with_reducible assumption) | (with_reducible refine below_drewN ?_) | (with_reducible refine Below.alloc ?_ ?_ _) | (with_reducible refine Below.drew ?_) | (with_reducible refine Below.setCell ?_ ?_ _) | (with_reducible refine Below.trans ?_ (Below.mono (by with_reducible assumption) ?_)) | go_size)⟩ HS.out
 ·have hne : ((decide (x < 0)) == (decide (y < 0))) = false := by simpa using hs
  have hsg : decide (y < 0) = !decide (x < 0) := by
   cases h1 : decide (x < 0) <;> cases h2 : decide (y < 0) <;> simp_all
  have HSX : Hid (x = if decide (x < 0) then -(x.natAbs : Int) else (x.natAbs : Int)) := by
   unfold Hid
   by_cases h : x < 0
   ·simp only [h, decide_true, if_true]; omega
   ·simp only [h, decide_false, Bool.false_eq_true, if_false]; omega
  have HSY : Hid (y = if !decide (x < 0) then -(y.natAbs : Int) else (y.natAbs : Int)) := by
   unfold Hid
   rw [← hsg]
   by_cases h : y < 0
   ·simp only [h, decide_true, if_true]; omega
   ·simp only [h, decide_false, Bool.false_eq_true, if_false]; omega
  rw [hsg]
  clear hs hne hsg
  generalize decide (x < 0) = s at *
  have hne : (s == !s) = false := by cases s <;> rfl
  go_enter Tryz.func61, Tryz.ntmps61
  go_wp2_with fail
  refine (ref_cmp _ _ _ _ _ (HX.out.kept (by repeat' (first | (with_reducible exact Below.refl _ _) | (with_reducible assumption) | (with_reducible refine below_drewN ?_) | (with_reducible refine Below.alloc ?_ ?_ _) | (with_reducible refine Below.drew ?_) | (with_reducible refine Below.setCell ?_ ?_ _) | (with_reducible refine Below.trans ?_ (Below.mono (by with_reducible assumption) ?_)) | go_size))) (HY.out.kept (by repeat' (first | (with_reducible exact Below.refl _ _) | (with_reducible assumption) | (with_reducible refine below_drewN ?_) | (with_reducible refine Below.alloc ?_ ?_ _) | (with_reducible refine Below.drew ?_) | (with_reducible refine Below.setCell ?_ ?_ _) | (with_reducible refine Below.trans ?_ (Below.mono (by with_reducible assumption) ?_)) | go_size)))).mono ?_
  rw [cmpL_dig]
  rintro e w9 ⟨rfl, k9, rfl⟩
  by_cases hge : y.natAbs ≤ x.natAbs
  ·have hsg := sgn_nonneg.2 hge
   have hs1 : x + y = if s then -((x.natAbs - y.natAbs : Nat) : Int) else ((x.natAbs - y.natAbs : Nat) : Int) := by
    have h1 := HSX.out
    have h2 := HSY.out
    cases s <;> simp only [Bool.not_false, Bool.not_true, if_true, Bool.false_eq_true, if_false] at h1 h2 ⊢ <;> omega
   have HS := hid hs1
   have HGE := hid hge
   clear hs1 hge
   generalize sgn x.natAbs y.natAbs = sg at *
   go_wp2
   go_region_held3 (fun w' => w'.cell? ⟨w.heap.size, 0, none⟩ = some (.bool s) ∧ w'.cell? ⟨w.heap.size, 1, none⟩ = some (.slice a n c) ∧ w'.cell? ⟨w.heap.size + 1, 1, none⟩ = some (.slice a' n' c')) (first | exact ⟨k0, k1, k2⟩ | exact ⟨j0, j1, j2⟩ | (refine ⟨?_, ?_, ?_⟩ <;> (rw [World.cell?_setCell_other _ _ _ _ (by intro h; injection h with h; omega), World.cell?_setCell_other _ _ _ _ (by intro h; injection h with h; omega)]; assumption)) | go_keep)
    (first
     | (go_at_call 123; go_must ((refine (ref_sub _ _ _ _ _ (HX.out.kept (by repeat' (first | (with_reducible exact Below.refl _ _) | (with_reducible assumption) | (with_reducible refine below_drewN ?_) | (with_reducible refine Below.alloc ?_ ?_ _) | (with_reducible refine Below.drew ?_) | (with_reducible refine Below.setCell ?_ ?_ _) | (with_reducible refine Below.trans ?_ (Below.mono (by with_reducible assumption) ?_)) | go_size))) (HY.out.kept (by repeat' (first | (with_reducible exact Below.refl _ _) | (with_reducible assumption) | (with_reducible refine below_drewN ?_) | (with_reducible refine Below.alloc ?_ ?_ _) | (with_reducible refine Below.drew ?_) | (with_reducible refine Below.setCell ?_ ?_ _) | (with_reducible refine Below.trans ?_ (Below.mono (by with_reducible assumption) ?_)) | go_size))) (by rw [HN.out]; exact HLX.out) (by rw [val_dig, val_dig]; exact HGE.out) (dig_length_mono HGE.out)).mono ?_; rintro e w1 ⟨ra, rc, rfl, hr1, hr2, hr4⟩; rw [val_dig, val_dig] at hr1 hr2; rw [val_dig, val_dig]; have hr3 := val_dig (x.natAbs - y.natAbs); have HR1 := hid hr1; have HR2 := hid hr2; have HR3 := hid hr3; have HR4 := hid hr4; have hz1 := hr4.size; clear hr1 hr2 hr3 hr4; simp at hz1; have k0 := cell_later HR4.out (a := ⟨w.heap.size, 0, none⟩) (v := .bool s) (by go_cell); have k1 := cell_later HR4.out (a := ⟨w.heap.size, 1, none⟩) (v := .slice a n c) (by go_cell); have k2 := cell_later HR4.out (a := ⟨w.heap.size + 1, 1, none⟩) (v := .slice a' n' c') (by go_cell); have k8 := cell_later HR4.out (a := ⟨w.heap.size + 1 + 1, 0, none⟩) (v := .bool false) (by go_cell); have k9 := cell_later HR4.out (a := ⟨w.heap.size + 1 + 1, 1, none⟩) (v := .slice none 0 0) (by go_cell); have f8 := frozen_later HR4.out (a := ⟨w.heap.size + 1 + 1, 0, none⟩) (v := .bool false) (by go_cell) (by simp [go_sem]); have f9 := frozen_later HR4.out (a := ⟨w.heap.size + 1 + 1, 1, none⟩) (v := .slice none 0 0) (by go_cell) (by simp [go_sem]))))
     | (go_at_call 114; go_must ((refine (ref_big _ _ _ _ HR1.out).mono ?_; rintro e w2 ⟨ra2, rc2, rfl, hr1, hr2, hr4⟩; rw [HR3.out] at hr1 hr2; rw [HR3.out]; have HP1 := hid hr1; have HP2 := hid hr2; have HP4 := hid hr4; have hz2 := hr4.size; clear hr1 hr2 hr4; have j0 := cell_later HP4.out k0; have j1 := cell_later HP4.out k1; have j2 := cell_later HP4.out k2; have j8 := cell_later HP4.out k8; have j9 := cell_later HP4.out k9; have g8 := frozen_later HP4.out k8 f8; have g9 := frozen_later HP4.out k9 f9))))
   go_wp2
   refine bodyPost_ret (by simp [results, Tryz.results61, go_sem, j8, j9]; rfl) rfl ?_
   have hof : Off (w.heap.size + 1 + 1) _ := HP2.out _ (by omega) (fun u hu => by simp at hu; subst hu; exact HR2.out _ (by simp))
   exact givesI_of (us := []) ⟨ra2, rc2, rfl, (HP1.out.setCell hof).setCell hof, fun R hR _ => HP2.out R (by omega) (fun u hu => by simp at hu; subst hu; exact HR2.out R (by simp; omega)), by have hb4 := HR4.out; have hb5 := HP4.out; repeat' (first | (with_reducible exact Below.refl _ _) | (with_reducible assumption) | (with_reducible refine below_drewN ?_) | (with_reducible refine Below.alloc ?_ ?_ _) | (with_reducible refine Below.drew ?_) | (with_reducible refine Below.setCell ?_ ?_ _) | (with_reducible refine Below.trans ?_ (Below.mono (by with_reducible assumption) ?_)) | go_size)⟩ HS.out
  ·have hsg : ¬ 0 ≤ sgn x.natAbs y.natAbs := fun h => hge (sgn_nonneg.1 h)
   have hle : x.natAbs ≤ y.natAbs := by omega
   have hs1 : x + y = if !s then -((y.natAbs - x.natAbs : Nat) : Int) else ((y.natAbs - x.natAbs : Nat) : Int) := by
    have h1 := HSX.out
    have h2 := HSY.out
    cases s <;> simp only [Bool.not_false, Bool.not_true, if_true, Bool.false_eq_true, if_false] at h1 h2 ⊢ <;> omega
   have HS := hid hs1
   have HGE := hid hle
   clear hs1 hle hge
   generalize sgn x.natAbs y.natAbs = sg at *
   go_wp2
   go_region_held3 (fun w' => w'.cell? ⟨w.heap.size + 1, 0, none⟩ = some (.bool (!s)) ∧ w'.cell? ⟨w.heap.size + 1, 1, none⟩ = some (.slice a' n' c') ∧ w'.cell? ⟨w.heap.size, 1, none⟩ = some (.slice a n c)) (first | exact ⟨k0, k1, k2⟩ | exact ⟨j0, j1, j2⟩ | (refine ⟨?_, ?_, ?_⟩ <;> (rw [World.cell?_setCell_other _ _ _ _ (by intro h; injection h with h; omega), World.cell?_setCell_other _ _ _ _ (by intro h; injection h with h; omega)]; assumption)) | go_keep)
    (first
     | (go_at_call 123; go_must ((refine (ref_sub _ _ _ _ _ (HY.out.kept (by repeat' (first | (with_reducible exact Below.refl _ _) | (with_reducible assumption) | (with_reducible refine below_drewN ?_) | (with_reducible refine Below.alloc ?_ ?_ _) | (with_reducible refine Below.drew ?_) | (with_reducible refine Below.setCell ?_ ?_ _) | (with_reducible refine Below.trans ?_ (Below.mono (by with_reducible assumption) ?_)) | go_size))) (HX.out.kept (by repeat' (first | (with_reducible exact Below.refl _ _) | (with_reducible assumption) | (with_reducible refine below_drewN ?_) | (with_reducible refine Below.alloc ?_ ?_ _) | (with_reducible refine Below.drew ?_) | (with_reducible refine Below.setCell ?_ ?_ _) | (with_reducible refine Below.trans ?_ (Below.mono (by with_reducible assumption) ?_)) | go_size))) (by rw [HN'.out]; exact HLY.out) (by rw [val_dig, val_dig]; exact HGE.out) (dig_length_mono HGE.out)).mono ?_; rintro e w1 ⟨ra, rc, rfl, hr1, hr2, hr4⟩; rw [val_dig, val_dig] at hr1 hr2; rw [val_dig, val_dig]; have hr3 := val_dig (y.natAbs - x.natAbs); have HR1 := hid hr1; have HR2 := hid hr2; have HR3 := hid hr3; have HR4 := hid hr4; have hz1 := hr4.size; clear hr1 hr2 hr3 hr4; simp at hz1; have k0 := cell_later HR4.out (a := ⟨w.heap.size + 1, 0, none⟩) (v := .bool (!s)) (by go_cell); have k1 := cell_later HR4.out (a := ⟨w.heap.size + 1, 1, none⟩) (v := .slice a' n' c') (by go_cell); have k2 := cell_later HR4.out (a := ⟨w.heap.size, 1, none⟩) (v := .slice a n c) (by go_cell); have k8 := cell_later HR4.out (a := ⟨w.heap.size + 1 + 1, 0, none⟩) (v := .bool false) (by go_cell); have k9 := cell_later HR4.out (a := ⟨w.heap.size + 1 + 1, 1, none⟩) (v := .slice none 0 0) (by go_cell); have f8 := frozen_later HR4.out (a := ⟨w.heap.size + 1 + 1, 0, none⟩) (v := .bool false) (by go_cell) (by simp [go_sem]); have f9 := frozen_later HR4.out (a := ⟨w.heap.size + 1 + 1, 1, none⟩) (v := .slice none 0 0) (by go_cell) (by simp [go_sem]))))
     | (go_at_call 114; go_must ((refine (ref_big _ _ _ _ HR1.out).mono ?_; rintro e w2 ⟨ra2, rc2, rfl, hr1, hr2, hr4⟩; rw [HR3.out] at hr1 hr2; rw [HR3.out]; have HP1 := hid hr1; have HP2 := hid hr2; have HP4 := hid hr4; have hz2 := hr4.size; clear hr1 hr2 hr4; have j0 := cell_later HP4.out k0; have j1 := cell_later HP4.out k1; have j2 := cell_later HP4.out k2; have j8 := cell_later HP4.out k8; have j9 := cell_later HP4.out k9; have g8 := frozen_later HP4.out k8 f8; have g9 := frozen_later HP4.out k9 f9))))
   go_wp2
   refine bodyPost_ret (by simp [results, Tryz.results61, go_sem, j8, j9]; rfl) rfl ?_
   have hof : Off (w.heap.size + 1 + 1) _ := HP2.out _ (by omega) (fun u hu => by simp at hu; subst hu; exact HR2.out _ (by simp))
   exact givesI_of (us := []) ⟨ra2, rc2, rfl, (HP1.out.setCell hof).setCell hof, fun R hR _ => HP2.out R (by omega) (fun u hu => by simp at hu; subst hu; exact HR2.out R (by simp; omega)), by have hb4 := HR4.out; have hb5 := HP4.out; repeat' (first | (with_reducible exact Below.refl _ _) | (with_reducible assumption) | (with_reducible refine below_drewN ?_) | (with_reducible refine Below.alloc ?_ ?_ _) | (with_reducible refine Below.drew ?_) | (with_reducible refine Below.setCell ?_ ?_ _) | (with_reducible refine Below.trans ?_ (Below.mono (by with_reducible assumption) ?_)) | go_size)⟩ HS.out
end Go.Proofs.YtikiimlmoalbcaaGreatDoor.Fr

namespace Go.Proofs.YtikiimlmoalbcaaGreatDoor.Fr
open Go.RowKit
theorem rsign (x : Int) : x = if decide (x < 0) then -(x.natAbs : Int) else (x.natAbs : Int) := by
  by_cases h : x < 0
  · simp only [h, decide_true, if_true]; omega
  · simp only [h, decide_false, Bool.false_eq_true, if_false]; omega
set_option maxRecDepth 100000 in
set_option maxHeartbeats 2000000 in
theorem ref_Times (u v : Value) (x y : Int) (w : World) (hx : RdZ w u x) (hy : RdZ w v y) (hlx : (dig x.natAbs).length ≤ 1073741824) (hly : (dig y.natAbs).length ≤ 1073741824) :
  Calls Tryz.prog 62 #[u, v] w (GivesI [] w (x * y)) := by
 obtain ⟨a, c, rfl, hx⟩ := hx
 obtain ⟨a', c', rfl, hy⟩ := hy
 have HX := hid hx
 have HY := hid hy
 have HLX := hid hlx
 have HLY := hid hly
 have hs1 : x * y = if (decide (x < 0)) != (decide (y < 0)) then -((x.natAbs * y.natAbs : Nat) : Int) else ((x.natAbs * y.natAbs : Nat) : Int) := by
  have h1 := rsign x
  have h2 := rsign y
  generalize x.natAbs = p at *
  generalize y.natAbs = q at *
  generalize decide (x < 0) = s at *
  generalize decide (y < 0) = t at *
  subst h1; subst h2
  cases s <;> cases t <;> simp [Int.neg_mul, Int.mul_neg]
 have HS := hid hs1
 clear hx hy hlx hly hs1
 generalize hn : (dig x.natAbs).length = n at *
 generalize hn' : (dig y.natAbs).length = n' at *
 have HN := hid hn
 have HN' := hid hn'
 clear hn hn'
 generalize decide (x < 0) = s at *
 generalize decide (y < 0) = t at *
 have hst : ∀ W : World, (binOp .neq 4 (.bool s) (.bool t)).run Tryz.prog W = .ok (.bool (s != t)) W := fun W => by cases s <;> cases t <;> kernel_rfl
 generalize (s != t) = st at *
 go_enter Tryz.func62, Tryz.ntmps62
 go_wp2
 go_region_held3 (fun w' => w'.cell? ⟨w.heap.size, 0, none⟩ = some (.bool s) ∧ w'.cell? ⟨w.heap.size, 1, none⟩ = some (.slice a n c) ∧ w'.cell? ⟨w.heap.size + 1, 0, none⟩ = some (.bool t) ∧ w'.cell? ⟨w.heap.size + 1, 1, none⟩ = some (.slice a' n' c')) (first | exact ⟨k0, k1, k2, k3⟩ | exact ⟨j0, j1, j2, j3⟩ | (refine ⟨?_, ?_, ?_, ?_⟩ <;> (rw [World.cell?_setCell_other _ _ _ _ (by intro h; injection h with h; omega), World.cell?_setCell_other _ _ _ _ (by intro h; injection h with h; omega)]; assumption)) | go_keep)
  (first
   | (go_at_call 124; go_must ((refine (ref_mul _ _ _ _ _ (HX.out.kept (by repeat' (first | (with_reducible exact Below.refl _ _) | (with_reducible assumption) | (with_reducible refine below_drewN ?_) | (with_reducible refine Below.alloc ?_ ?_ _) | (with_reducible refine Below.drew ?_) | (with_reducible refine Below.setCell ?_ ?_ _) | (with_reducible refine Below.trans ?_ (Below.mono (by with_reducible assumption) ?_)) | go_size))) (HY.out.kept (by repeat' (first | (with_reducible exact Below.refl _ _) | (with_reducible assumption) | (with_reducible refine below_drewN ?_) | (with_reducible refine Below.alloc ?_ ?_ _) | (with_reducible refine Below.drew ?_) | (with_reducible refine Below.setCell ?_ ?_ _) | (with_reducible refine Below.trans ?_ (Below.mono (by with_reducible assumption) ?_)) | go_size))) (by rw [HN.out]; exact HLX.out) (by rw [HN'.out]; exact HLY.out)).mono ?_; rintro e w1 ⟨ra, rc, rfl, hr1, hr2, hr4⟩; rw [val_dig, val_dig] at hr1 hr2; rw [val_dig, val_dig]; have hr3 := val_dig (x.natAbs * y.natAbs); have HR1 := hid hr1; have HR2 := hid hr2; have HR3 := hid hr3; have HR4 := hid hr4; have hz1 := hr4.size; clear hr1 hr2 hr3 hr4; simp at hz1; have k0 := cell_later HR4.out (a := ⟨w.heap.size, 0, none⟩) (v := .bool s) (by go_cell); have k1 := cell_later HR4.out (a := ⟨w.heap.size, 1, none⟩) (v := .slice a n c) (by go_cell); have k2 := cell_later HR4.out (a := ⟨w.heap.size + 1, 0, none⟩) (v := .bool t) (by go_cell); have k3 := cell_later HR4.out (a := ⟨w.heap.size + 1, 1, none⟩) (v := .slice a' n' c') (by go_cell); have k8 := cell_later HR4.out (a := ⟨w.heap.size + 1 + 1, 0, none⟩) (v := .bool false) (by go_cell); have k9 := cell_later HR4.out (a := ⟨w.heap.size + 1 + 1, 1, none⟩) (v := .slice none 0 0) (by go_cell); have f8 := frozen_later HR4.out (a := ⟨w.heap.size + 1 + 1, 0, none⟩) (v := .bool false) (by go_cell) (by simp [go_sem]); have f9 := frozen_later HR4.out (a := ⟨w.heap.size + 1 + 1, 1, none⟩) (v := .slice none 0 0) (by go_cell) (by simp [go_sem]))))
   | (go_at_call 114; go_must ((refine (ref_big _ _ _ _ HR1.out).mono ?_; rintro e w2 ⟨ra2, rc2, rfl, hr1, hr2, hr4⟩; rw [HR3.out] at hr1 hr2; rw [HR3.out]; have HP1 := hid hr1; have HP2 := hid hr2; have HP4 := hid hr4; have hz2 := hr4.size; clear hr1 hr2 hr4; have j0 := cell_later HP4.out k0; have j1 := cell_later HP4.out k1; have j2 := cell_later HP4.out k2; have j3 := cell_later HP4.out k3; have j8 := cell_later HP4.out k8; have j9 := cell_later HP4.out k9; have g8 := frozen_later HP4.out k8 f8; have g9 := frozen_later HP4.out k9 f9))))
 go_wp2
 refine bodyPost_ret (by simp [results, Tryz.results62, go_sem, j8, j9]; rfl) rfl ?_
 have hof : Off (w.heap.size + 1 + 1) _ := HP2.out _ (by omega) (fun u hu => by simp at hu; subst hu; exact HR2.out _ (by simp))
 exact givesI_of (us := []) ⟨ra2, rc2, rfl, (HP1.out.setCell hof).setCell hof, fun R hR _ => HP2.out R (by omega) (fun u hu => by simp at hu; subst hu; exact HR2.out R (by simp; omega)), by have hb4 := HR4.out; have hb5 := HP4.out; repeat' (first | (with_reducible exact Below.refl _ _) | (with_reducible assumption) | (with_reducible refine below_drewN ?_) | (with_reducible refine Below.alloc ?_ ?_ _) | (with_reducible refine Below.drew ?_) | (with_reducible refine Below.setCell ?_ ?_ _) | (with_reducible refine Below.trans ?_ (Below.mono (by with_reducible assumption) ?_)) | go_size)⟩ HS.out
set_option maxRecDepth 100000 in
set_option maxHeartbeats 1000000 in
theorem ref_Minus (a : Option Addr) (c : Nat) (x : Int) (w : World) (hx : Rd32 w (.slice a (dig x.natAbs).length c) (dig x.natAbs)) :
    Calls Tryz.prog 63 #[.agg #[.bool (decide (x < 0)), .slice a (dig x.natAbs).length c]] w (GivesI [.slice a (dig x.natAbs).length c] w (-x)) := by
  have HX := hid hx
  have hs1 : -x = if !decide (x < 0) then -(x.natAbs : Int) else (x.natAbs : Int) := by
    have h1 := rsign x
    generalize x.natAbs = p at *
    generalize decide (x < 0) = s at *
    subst h1
    cases s <;> simp
  have HS := hid hs1
  have HBG := hid (fun s W (hb : Below w.heap.size w W) => ref_big s _ _ W (hx.kept hb))
  clear hx hs1
  have hvd := val_dig x.natAbs
  rw [hvd] at HBG
  clear hvd
  generalize (dig x.natAbs).length = n at *
  generalize decide (x < 0) = s at *
  go_enter Tryz.func63, Tryz.ntmps63
  go_wp2_with fail
  refine (HBG.out _ _ (by repeat' (first | (with_reducible exact Below.refl _ _) | (with_reducible assumption) | (with_reducible refine below_drewN ?_) | (with_reducible refine Below.alloc ?_ ?_ _) | (with_reducible refine Below.drew ?_) | (with_reducible refine Below.setCell ?_ ?_ _) | (with_reducible refine Below.trans ?_ (Below.mono (by with_reducible assumption) ?_)) | go_size))).mono ?_
  rintro e w1 ⟨a1, c1, rfl, hr1, ho1, hb1⟩
  have HR1 := hid hr1
  have HO1 := hid ho1
  have HB1 := hid hb1
  have hz1 := hb1.size
  have k0 := cell_later hb1 (a := ⟨w.heap.size, 0, none⟩) (v := .bool s) (by go_cell)
  have k1 := cell_later hb1 (a := ⟨w.heap.size, 1, none⟩) (v := .slice a n c) (by go_cell)
  have k2 := cell_later hb1 (a := ⟨w.heap.size + 1, 0, none⟩) (v := .bool false) (by go_cell)
  have k3 := cell_later hb1 (a := ⟨w.heap.size + 1, 1, none⟩) (v := .slice none 0 0) (by go_cell)
  have fk2 := frozen_later hb1 (a := ⟨w.heap.size + 1, 0, none⟩) (v := .bool false) (by go_cell) (by simp [go_sem])
  have fk3 := frozen_later hb1 (a := ⟨w.heap.size + 1, 1, none⟩) (v := .slice none 0 0) (by go_cell) (by simp [go_sem])
  clear hr1 ho1 hb1
  simp at hz1
  go_wp2
  refine bodyPost_ret (by simp [results, Tryz.results63, go_sem, k2, k3]; rfl) rfl ?_
  have hof : Off (w.heap.size + 1) _ := HO1.out _ (by simp) (fun u hu => by simp at hu; subst hu; exact HX.out.off (by omega))
  have hdx : decide (0 < x.natAbs) = !decide (x = 0) := by
    by_cases h : x = 0
    · subst h; rfl
    · simp [h]
  exact givesI_of ⟨a1, c1, by rw [hdx], (HR1.out.setCell hof).setCell hof, fun R hR hu => HO1.out R (by simp; omega) hu, by have h := HB1.out; repeat' (first | (with_reducible exact Below.refl _ _) | (with_reducible assumption) | (with_reducible refine below_drewN ?_) | (with_reducible refine Below.alloc ?_ ?_ _) | (with_reducible refine Below.drew ?_) | (with_reducible refine Below.setCell ?_ ?_ _) | (with_reducible refine Below.trans ?_ (Below.mono (by with_reducible assumption) ?_)) | go_size)⟩ HS.out
set_option maxRecDepth 100000 in
set_option maxHeartbeats 1000000 in
theorem ref_Valid (v : Value) (neg : Bool) (p q : Nat) (w : World) (hv : RdF w v neg p q) (hq : 0 < q) (hpq : Nat.gcd p q = 1) (hneg : p = 0 → neg = false) (hp2 : p < 4294967296 ^ 256) (hq2 : q < 4294967296 ^ 256) :
  Calls Tryz.prog 60 #[v] w (Ret w (.bool true)) := by
 obtain ⟨a, c, a', c', rfl, h1, h2⟩ := hv
 have HX := hid h1
 have HY := hid h2
 have hk1 := okBig_dig neg p hp2 hneg
 have hk2 := okBig_dig false q hq2 (fun _ => rfl)
 have hlp := dig_length_le hp2
 have hlq := dig_length_le hq2
 have hV1 := fun W (hb : Below w.heap.size w W) => ref_ValidBig (.agg #[.bool neg, .slice a (dig p).length c]) neg (dig p) W ⟨a, c, rfl, h1.kept hb⟩
 have hV2 := fun W (hb : Below w.heap.size w W) => ref_ValidBig (.agg #[.bool false, .slice a' (dig q).length c']) false (dig q) W ⟨a', c', rfl, h2.kept hb⟩
 rw [hk1] at hV1
 rw [hk2] at hV2
 have HV1 := hid hV1
 have HV2 := hid hV2
 have HP := @dig_length_pos p
 have hQ := dig_length_pos.2 hq
 have HC1 := hid (fun W v1 (hy : Rd32 W v1 (dig 1)) (hb : Below w.heap.size w W) => ref_cmp _ v1 _ _ W (h2.kept hb) hy)
 have HC2 := hid (fun W v2 v1 n (hx : Rd32 W v2 (dig n)) (hy : Rd32 W v1 (dig 1)) => ref_cmp v2 v1 _ _ W hx hy)
 have hd1 : dig 1 = [1] := dig_one_digit (by omega) (by omega)
 have HD1 := hid hd1
 by_cases hp : 0 < p
 ·have HG := hid (fun W (hb : Below w.heap.size w W) => ref_gcd _ _ p q W (h1.kept hb) (h2.kept hb) hp hq (by omega) (by omega))
  rw [hpq] at HG
  have hP := HP.2 hp
  clear h1 h2 hk1 hk2 hV1 hV2 hd1 hlp hlq HP hp2 hq2
  generalize (dig p).length = L at *
  generalize (dig q).length = L' at *
  have hne : ((L : Int) == 0) = false := by simp; omega
  have hne' : ((L' : Int) == 0) = false := by simp; omega
  go_enter Tryz.func60, Tryz.ntmps60
  go_wp2_with fail
  refine (HV1.out _ (by repeat' (first | (with_reducible exact Below.refl _ _) | (with_reducible assumption) | (with_reducible refine below_drewN ?_) | (with_reducible refine Below.alloc ?_ ?_ _) | (with_reducible refine Below.drew ?_) | (with_reducible refine Below.setCell ?_ ?_ _) | (with_reducible refine Below.trans ?_ (Below.mono (by with_reducible assumption) ?_)) | go_size))).mono ?_
  rintro e w1 ⟨rfl, hb1⟩
  have hA1 : Below w.heap.size w w1 := by repeat' (first | (with_reducible exact Below.refl _ _) | (with_reducible assumption) | (with_reducible refine below_drewN ?_) | (with_reducible refine Below.alloc ?_ ?_ _) | (with_reducible refine Below.drew ?_) | (with_reducible refine Below.setCell ?_ ?_ _) | (with_reducible refine Below.trans ?_ (Below.mono (by with_reducible assumption) ?_)) | go_size)
  have HA1 := hid hA1
  have hz1 := hb1.size
  have k0 := cell_later hb1 (a := ⟨w.heap.size, 0, none⟩) (v := .bool neg) (by go_cell)
  have k1 := cell_later hb1 (a := ⟨w.heap.size, 1, none⟩) (v := .slice a L c) (by go_cell)
  have k2 := cell_later hb1 (a := ⟨w.heap.size, 2, none⟩) (v := .bool false) (by go_cell)
  have k3 := cell_later hb1 (a := ⟨w.heap.size, 3, none⟩) (v := .slice a' L' c') (by go_cell)
  clear hb1 hA1
  simp at hz1
  go_wp2_with fail
  refine (HV2.out _ HA1.out).mono ?_
  rintro e w2 ⟨rfl, hb2⟩
  have HB2 := hid hb2
  have hz2 := hb2.size
  have j0 := cell_later hb2 k0
  have j1 := cell_later hb2 k1
  have j2 := cell_later hb2 k2
  have j3 := cell_later hb2 k3
  have hA2 : Below w.heap.size w w2 := by have h := HA1.out; repeat' (first | (with_reducible exact Below.refl _ _) | (with_reducible assumption) | (with_reducible refine below_drewN ?_) | (with_reducible refine Below.alloc ?_ ?_ _) | (with_reducible refine Below.drew ?_) | (with_reducible refine Below.setCell ?_ ?_ _) | (with_reducible refine Below.trans ?_ (Below.mono (by with_reducible assumption) ?_)) | go_size)
  have HA2 := hid hA2
  clear hb2 hA2
  go_wp2_with fail
  refine (HG.out _ HA2.out).mono ?_
  rintro e w3 ⟨v3, rfl, hv3, hb3⟩
  have HB3 := hid hb3
  have hz3 := hb3.size
  have HV3 := hid hv3.rd
  obtain ⟨p3, L3, c3, rfl, _⟩ := hv3.len
  clear hb3 hv3
  go_wp2_with fail
  have hn1 := Rd32.new1 w3 1 132 w3.heap.size rfl (by omega)
  rw [← HD1.out] at hn1
  have hcc := HC2.out _ _ _ 1 (HV3.out.alloc) hn1
  rw [cmpL_dig, sgn_self] at hcc
  have HCC := hid hcc
  clear hcc hn1
  refine HCC.out.mono ?_
  rintro e w4 ⟨rfl, k4, rfl⟩
  go_wp2
  go_ret
  exact ⟨by trivial, by have h2 := HA2.out; have h3 := HB3.out; repeat' (first | (with_reducible exact Below.refl _ _) | (with_reducible assumption) | (with_reducible refine below_drewN ?_) | (with_reducible refine Below.alloc ?_ ?_ _) | (with_reducible refine Below.drew ?_) | (with_reducible refine Below.setCell ?_ ?_ _) | (with_reducible refine Below.trans ?_ (Below.mono (by with_reducible assumption) ?_)) | go_size)⟩
 ·obtain rfl : p = 0 := by omega
  have hq1 : q = 1 := by rw [Nat.gcd_zero_left] at hpq; exact hpq
  subst hq1
  have hn : neg = false := hneg rfl
  subst hn
  have hL0 : (dig 0).length = 0 := by rw [dig_zero]; rfl
  have hL1 : (dig 1).length = 1 := by rw [hd1]; rfl
  clear h1 h2 hk1 hk2 hV1 hV2 hd1 hlp hlq HP hp2 hq2 hQ hneg hpq
  rw [hL0] at HV1
  rw [hL1] at HV2 HC1
  rw [hL0, hL1]
  clear hL0 hL1
  go_enter Tryz.func60, Tryz.ntmps60
  go_wp2_with fail
  refine (HV1.out _ (by repeat' (first | (with_reducible exact Below.refl _ _) | (with_reducible assumption) | (with_reducible refine below_drewN ?_) | (with_reducible refine Below.alloc ?_ ?_ _) | (with_reducible refine Below.drew ?_) | (with_reducible refine Below.setCell ?_ ?_ _) | (with_reducible refine Below.trans ?_ (Below.mono (by with_reducible assumption) ?_)) | go_size))).mono ?_
  rintro e w1 ⟨rfl, hb1⟩
  have hA1 : Below w.heap.size w w1 := by repeat' (first | (with_reducible exact Below.refl _ _) | (with_reducible assumption) | (with_reducible refine below_drewN ?_) | (with_reducible refine Below.alloc ?_ ?_ _) | (with_reducible refine Below.drew ?_) | (with_reducible refine Below.setCell ?_ ?_ _) | (with_reducible refine Below.trans ?_ (Below.mono (by with_reducible assumption) ?_)) | go_size)
  have HA1 := hid hA1
  have hz1 := hb1.size
  have k0 := cell_later hb1 (a := ⟨w.heap.size, 0, none⟩) (v := .bool false) (by go_cell)
  have k1 := cell_later hb1 (a := ⟨w.heap.size, 1, none⟩) (v := .slice a 0 c) (by go_cell)
  have k2 := cell_later hb1 (a := ⟨w.heap.size, 2, none⟩) (v := .bool false) (by go_cell)
  have k3 := cell_later hb1 (a := ⟨w.heap.size, 3, none⟩) (v := .slice a' 1 c') (by go_cell)
  clear hb1 hA1
  simp at hz1
  go_wp2_with fail
  refine (HV2.out _ HA1.out).mono ?_
  rintro e w2 ⟨rfl, hb2⟩
  have HB2 := hid hb2
  have hz2 := hb2.size
  have j0 := cell_later hb2 k0
  have j1 := cell_later hb2 k1
  have j2 := cell_later hb2 k2
  have j3 := cell_later hb2 k3
  have hA2 : Below w.heap.size w w2 := by have h := HA1.out; repeat' (first | (with_reducible exact Below.refl _ _) | (with_reducible assumption) | (with_reducible refine below_drewN ?_) | (with_reducible refine Below.alloc ?_ ?_ _) | (with_reducible refine Below.drew ?_) | (with_reducible refine Below.setCell ?_ ?_ _) | (with_reducible refine Below.trans ?_ (Below.mono (by with_reducible assumption) ?_)) | go_size)
  have HA2 := hid hA2
  clear hb2 hA2
  go_wp2_with fail
  have hn1 := Rd32.new1 w2 1 132 w2.heap.size rfl (by omega)
  rw [← HD1.out] at hn1
  have hcc := HC1.out _ _ hn1 (HA2.out.alloc (by omega) _)
  rw [cmpL_dig, sgn_self] at hcc
  have HCC := hid hcc
  clear hcc hn1
  refine HCC.out.mono ?_
  rintro e w4 ⟨rfl, k4, rfl⟩
  go_wp2
  go_ret
  exact ⟨by trivial, by have h2 := HA2.out; repeat' (first | (with_reducible exact Below.refl _ _) | (with_reducible assumption) | (with_reducible refine below_drewN ?_) | (with_reducible refine Below.alloc ?_ ?_ _) | (with_reducible refine Below.drew ?_) | (with_reducible refine Below.setCell ?_ ?_ _) | (with_reducible refine Below.trans ?_ (Below.mono (by with_reducible assumption) ?_)) | go_size)⟩
end Go.Proofs.YtikiimlmoalbcaaGreatDoor.Fr
