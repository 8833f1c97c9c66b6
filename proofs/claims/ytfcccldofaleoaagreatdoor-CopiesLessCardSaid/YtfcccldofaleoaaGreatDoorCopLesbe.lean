/- Contracts of the reference's sum, product and negative of big integers. -/
import Derived.Test.YtfcccldofaleoaaGreatDoorCopLesbd
namespace Go.Proofs.YtfcccldofaleoaaGreatDoor.Fr
open Go.RowKit

/-- 'v' is the big integer z. -/
def RdZ (w : World) (v : Value) (z : Int) : Prop :=
  ∃ a c, v = .agg #[.bool (decide (z < 0)), .slice a (dig z.natAbs).length c] ∧ Rd32 w (.slice a (dig z.natAbs).length c) (dig z.natAbs)
theorem RdZ.kept {w w' : World} {v : Value} {z : Int} (h : RdZ w v z) (hb : Below w.heap.size w w') : RdZ w' v z := by
  obtain ⟨a, c, e, h⟩ := h; exact ⟨a, c, e, h.kept hb⟩
theorem RdZ.alloc {w : World} {v : Value} {z : Int} (h : RdZ w v z) {o : Obj} : RdZ (w.alloc o) v z := h.kept ((Below.refl _ _).alloc (Nat.le_refl _) _)

/-- It makes the big integer z. -/
def GivesI (us : List Value) (w : World) (z : Int) (e : Ending) (w' : World) : Prop :=
  ∃ a c, e = .returned (.agg #[.bool (decide (z < 0)), .slice a (dig z.natAbs).length c]) ∧ Rd32 w' (.slice a (dig z.natAbs).length c) (dig z.natAbs) ∧
    (∀ R, R < w.heap.size → (∀ u ∈ us, Off R u) → Off R (.slice a (dig z.natAbs).length c)) ∧ Below w.heap.size w w'
theorem GivesI.rdZ {us : List Value} {w w' : World} {z : Int} {e : Ending} (h : GivesI us w z e w') : ∃ v, e = .returned v ∧ RdZ w' v z ∧ Below w.heap.size w w' := by
  obtain ⟨a, c, rfl, h1, h2, h3⟩ := h; exact ⟨_, rfl, ⟨a, c, rfl, h1⟩, h3⟩
theorem givesI_of {us : List Value} {w w' : World} {neg : Bool} {n : Nat} {z : Int} {e : Ending} (h : GivesZ us w neg n e w') (hz : z = if neg then -(n : Int) else (n : Int)) : GivesI us w z e w' := by
  obtain ⟨a, c, rfl, h1, h2, h3⟩ := h
  have hn : z.natAbs = n := by rw [hz]; split <;> omega
  have hs : (neg && decide (0 < n)) = decide (z < 0) := by
    rw [hz]; cases neg <;> simp <;> omega
  exact ⟨a, c, by rw [hs, hn], by rw [hn]; exact h1, by rw [hn]; exact h2, h3⟩

set_option maxRecDepth 100000 in
set_option maxHeartbeats 2000000 in
theorem ref_Plus (u v : Value) (x y : Int) (w : World) (hx : RdZ w u x) (hy : RdZ w v y) (hlx : (dig x.natAbs).length ≤ 1073741824) (hly : (dig y.natAbs).length ≤ 1073741824) :
    Calls Tryz.prog 56 #[u, v] w (GivesI [] w (x + y)) := by
  obtain ⟨a, c, rfl, hx⟩ := hx
  obtain ⟨a', c', rfl, hy⟩ := hy
  have HX := hid hx
  have HY := hid hy
  have HLX := hid hlx
  have HLY := hid hly
  clear hx hy hlx hly
  generalize hn : (dig x.natAbs).length = n at *
  generalize hn' : (dig y.natAbs).length = n' at *
  have HN := hid hn
  have HN' := hid hn'
  clear hn hn'
  by_cases hs : (decide (x < 0)) = (decide (y < 0))
  · have hs1 : x + y = if decide (x < 0) then -((x.natAbs + y.natAbs : Nat) : Int) else ((x.natAbs + y.natAbs : Nat) : Int) := by
      have h2 : (x < 0) ↔ (y < 0) := by simpa using hs
      by_cases h3 : x < 0
      · have := h2.1 h3; simp only [h3, decide_true, if_true]; omega
      · have : ¬ y < 0 := fun h => h3 (h2.2 h)
        simp only [h3, decide_false]; simp only [Bool.false_eq_true, if_false]; omega
    have HS := hid hs1
    clear hs1
    rw [← hs]
    generalize decide (x < 0) = s at *
    clear hs
    go_enter Tryz.func56, Tryz.ntmps56
    go_wp2
    go_region_held3 (fun w' => w'.cell? ⟨w.heap.size, 0, none⟩ = some (.bool s) ∧ w'.cell? ⟨w.heap.size, 1, none⟩ = some (.slice a n c) ∧ w'.cell? ⟨w.heap.size + 1, 1, none⟩ = some (.slice a' n' c')) (first | exact ⟨k0, k1, k2⟩ | exact ⟨j0, j1, j2⟩ | (refine ⟨?_, ?_, ?_⟩ <;> (rw [World.cell?_setCell_other _ _ _ _ (by intro h; injection h with h; omega), World.cell?_setCell_other _ _ _ _ (by intro h; injection h with h; omega)]; assumption)) | go_keep)
      (first
        | (go_at_call 89; go_must ((refine (ref_add _ _ _ _ _ (HX.out.kept (by repeat' (first | (with_reducible exact Below.refl _ _) | (with_reducible assumption) | (with_reducible refine below_drewN ?_) | (with_reducible refine Below.alloc ?_ ?_ _) | (with_reducible refine Below.drew ?_) | (with_reducible refine Below.setCell ?_ ?_ _) | (with_reducible refine Below.trans ?_ (Below.mono (by with_reducible assumption) ?_)) | go_size))) (HY.out.kept (by repeat' (first | (with_reducible exact Below.refl _ _) | (with_reducible assumption) | (with_reducible refine below_drewN ?_) | (with_reducible refine Below.alloc ?_ ?_ _) | (with_reducible refine Below.drew ?_) | (with_reducible refine Below.setCell ?_ ?_ _) | (with_reducible refine Below.trans ?_ (Below.mono (by with_reducible assumption) ?_)) | go_size))) (by rw [HN.out]; exact HLX.out) (by rw [HN'.out]; exact HLY.out)).mono ?_; rintro e w1 ⟨ra, rc, zs, rfl, hr1, hr3, hr2, hr4⟩; rw [val_dig, val_dig] at hr3; have HR1 := hid hr1; have HR2 := hid hr2; have HR3 := hid hr3; have HR4 := hid hr4; have hz1 := hr4.size; clear hr1 hr2 hr3 hr4; simp at hz1; have k0 := cell_later HR4.out (a := ⟨w.heap.size, 0, none⟩) (v := .bool s) (by go_cell); have k1 := cell_later HR4.out (a := ⟨w.heap.size, 1, none⟩) (v := .slice a n c) (by go_cell); have k2 := cell_later HR4.out (a := ⟨w.heap.size + 1, 1, none⟩) (v := .slice a' n' c') (by go_cell); have k8 := cell_later HR4.out (a := ⟨w.heap.size + 1 + 1, 0, none⟩) (v := .bool false) (by go_cell); have k9 := cell_later HR4.out (a := ⟨w.heap.size + 1 + 1, 1, none⟩) (v := .slice none 0 0) (by go_cell); have f8 := frozen_later HR4.out (a := ⟨w.heap.size + 1 + 1, 0, none⟩) (v := .bool false) (by go_cell) (by simp [go_sem]); have f9 := frozen_later HR4.out (a := ⟨w.heap.size + 1 + 1, 1, none⟩) (v := .slice none 0 0) (by go_cell) (by simp [go_sem]))))
        | (go_at_call 88; go_must ((refine (ref_big _ _ _ _ HR1.out).mono ?_; rintro e w2 ⟨ra2, rc2, rfl, hr1, hr2, hr4⟩; rw [HR3.out] at hr1 hr2; rw [HR3.out]; have HP1 := hid hr1; have HP2 := hid hr2; have HP4 := hid hr4; have hz2 := hr4.size; clear hr1 hr2 hr4; have j0 := cell_later HP4.out k0; have j1 := cell_later HP4.out k1; have j2 := cell_later HP4.out k2; have j8 := cell_later HP4.out k8; have j9 := cell_later HP4.out k9; have g8 := frozen_later HP4.out k8 f8; have g9 := frozen_later HP4.out k9 f9))))
    go_wp2
    refine bodyPost_ret (by simp [results, Tryz.results56, go_sem, j8, j9]; rfl) rfl ?_
    have hof : Off (w.heap.size + 1 + 1) _ := HP2.out _ (by omega) (fun u hu => by simp at hu; subst hu; exact HR2.out _ (by simp))
    exact givesI_of (us := []) ⟨ra2, rc2, rfl, (HP1.out.setCell hof).setCell hof, fun R hR _ => HP2.out R (by omega) (fun u hu => by simp at hu; subst hu; exact HR2.out R (by simp; omega)), by have hb4 := HR4.out; have hb5 := HP4.out; repeat' (first | (with_reducible exact Below.refl _ _) | (with_reducible assumption) | (with_reducible refine below_drewN ?_) | (with_reducible refine Below.alloc ?_ ?_ _) | (with_reducible refine Below.drew ?_) | (with_reducible refine Below.setCell ?_ ?_ _) | (with_reducible refine Below.trans ?_ (Below.mono (by with_reducible assumption) ?_)) | go_size)⟩ HS.out
  · have hne : ((decide (x < 0)) == (decide (y < 0))) = false := by simpa using hs
    have hsg : decide (y < 0) = !decide (x < 0) := by
      cases h1 : decide (x < 0) <;> cases h2 : decide (y < 0) <;> simp_all
    have HSX : Hid (x = if decide (x < 0) then -(x.natAbs : Int) else (x.natAbs : Int)) := by
      unfold Hid
      by_cases h : x < 0
      · simp only [h, decide_true, if_true]; omega
      · simp only [h, decide_false, Bool.false_eq_true, if_false]; omega
    have HSY : Hid (y = if !decide (x < 0) then -(y.natAbs : Int) else (y.natAbs : Int)) := by
      unfold Hid
      rw [← hsg]
      by_cases h : y < 0
      · simp only [h, decide_true, if_true]; omega
      · simp only [h, decide_false, Bool.false_eq_true, if_false]; omega
    rw [hsg]
    clear hs hne hsg
    generalize decide (x < 0) = s at *
    have hne : (s == !s) = false := by cases s <;> rfl
    go_enter Tryz.func56, Tryz.ntmps56
    go_wp2_with fail
    refine (ref_cmp _ _ _ _ _ (HX.out.kept (by repeat' (first | (with_reducible exact Below.refl _ _) | (with_reducible assumption) | (with_reducible refine below_drewN ?_) | (with_reducible refine Below.alloc ?_ ?_ _) | (with_reducible refine Below.drew ?_) | (with_reducible refine Below.setCell ?_ ?_ _) | (with_reducible refine Below.trans ?_ (Below.mono (by with_reducible assumption) ?_)) | go_size))) (HY.out.kept (by repeat' (first | (with_reducible exact Below.refl _ _) | (with_reducible assumption) | (with_reducible refine below_drewN ?_) | (with_reducible refine Below.alloc ?_ ?_ _) | (with_reducible refine Below.drew ?_) | (with_reducible refine Below.setCell ?_ ?_ _) | (with_reducible refine Below.trans ?_ (Below.mono (by with_reducible assumption) ?_)) | go_size)))).mono ?_
    rw [cmpL_dig]
    rintro e w9 ⟨rfl, k9, rfl⟩
    by_cases hge : y.natAbs ≤ x.natAbs
    · have hsg := sgn_nonneg.2 hge
      have hs1 : x + y = if s then -((x.natAbs - y.natAbs : Nat) : Int) else ((x.natAbs - y.natAbs : Nat) : Int) := by
        have h1 := HSX.out
        have h2 := HSY.out
        cases s <;> simp only [Bool.not_false, Bool.not_true, if_true, Bool.false_eq_true, if_false] at h1 h2 ⊢ <;> omega
      have HS := hid hs1
      have HGE := hid hge
      clear hs1 hge
      generalize sgn x.natAbs y.natAbs = sg at *
      go_wp2
      go_region_held3 (fun w' => w'.cell? ⟨w.heap.size, 0, none⟩ = some (.bool s) ∧ w'.cell? ⟨w.heap.size, 1, none⟩ = some (.slice a n c) ∧ w'.cell? ⟨w.heap.size + 1, 1, none⟩ = some (.slice a' n' c')) (first | exact ⟨k0, k1, k2⟩ | exact ⟨j0, j1, j2⟩ | (refine ⟨?_, ?_, ?_⟩ <;> (rw [World.cell?_setCell_other _ _ _ _ (by intro h; injection h with h; omega), World.cell?_setCell_other _ _ _ _ (by intro h; injection h with h; omega)]; assumption)) | go_keep)
        (first
          | (go_at_call 90; go_must ((refine (ref_sub _ _ _ _ _ (HX.out.kept (by repeat' (first | (with_reducible exact Below.refl _ _) | (with_reducible assumption) | (with_reducible refine below_drewN ?_) | (with_reducible refine Below.alloc ?_ ?_ _) | (with_reducible refine Below.drew ?_) | (with_reducible refine Below.setCell ?_ ?_ _) | (with_reducible refine Below.trans ?_ (Below.mono (by with_reducible assumption) ?_)) | go_size))) (HY.out.kept (by repeat' (first | (with_reducible exact Below.refl _ _) | (with_reducible assumption) | (with_reducible refine below_drewN ?_) | (with_reducible refine Below.alloc ?_ ?_ _) | (with_reducible refine Below.drew ?_) | (with_reducible refine Below.setCell ?_ ?_ _) | (with_reducible refine Below.trans ?_ (Below.mono (by with_reducible assumption) ?_)) | go_size))) (by rw [HN.out]; exact HLX.out) (by rw [val_dig, val_dig]; exact HGE.out) (dig_length_mono HGE.out)).mono ?_; rintro e w1 ⟨ra, rc, rfl, hr1, hr2, hr4⟩; rw [val_dig, val_dig] at hr1 hr2; rw [val_dig, val_dig]; have hr3 := val_dig (x.natAbs - y.natAbs); have HR1 := hid hr1; have HR2 := hid hr2; have HR3 := hid hr3; have HR4 := hid hr4; have hz1 := hr4.size; clear hr1 hr2 hr3 hr4; simp at hz1; have k0 := cell_later HR4.out (a := ⟨w.heap.size, 0, none⟩) (v := .bool s) (by go_cell); have k1 := cell_later HR4.out (a := ⟨w.heap.size, 1, none⟩) (v := .slice a n c) (by go_cell); have k2 := cell_later HR4.out (a := ⟨w.heap.size + 1, 1, none⟩) (v := .slice a' n' c') (by go_cell); have k8 := cell_later HR4.out (a := ⟨w.heap.size + 1 + 1, 0, none⟩) (v := .bool false) (by go_cell); have k9 := cell_later HR4.out (a := ⟨w.heap.size + 1 + 1, 1, none⟩) (v := .slice none 0 0) (by go_cell); have f8 := frozen_later HR4.out (a := ⟨w.heap.size + 1 + 1, 0, none⟩) (v := .bool false) (by go_cell) (by simp [go_sem]); have f9 := frozen_later HR4.out (a := ⟨w.heap.size + 1 + 1, 1, none⟩) (v := .slice none 0 0) (by go_cell) (by simp [go_sem]))))
          | (go_at_call 88; go_must ((refine (ref_big _ _ _ _ HR1.out).mono ?_; rintro e w2 ⟨ra2, rc2, rfl, hr1, hr2, hr4⟩; rw [HR3.out] at hr1 hr2; rw [HR3.out]; have HP1 := hid hr1; have HP2 := hid hr2; have HP4 := hid hr4; have hz2 := hr4.size; clear hr1 hr2 hr4; have j0 := cell_later HP4.out k0; have j1 := cell_later HP4.out k1; have j2 := cell_later HP4.out k2; have j8 := cell_later HP4.out k8; have j9 := cell_later HP4.out k9; have g8 := frozen_later HP4.out k8 f8; have g9 := frozen_later HP4.out k9 f9))))
      go_wp2
      refine bodyPost_ret (by simp [results, Tryz.results56, go_sem, j8, j9]; rfl) rfl ?_
      have hof : Off (w.heap.size + 1 + 1) _ := HP2.out _ (by omega) (fun u hu => by simp at hu; subst hu; exact HR2.out _ (by simp))
      exact givesI_of (us := []) ⟨ra2, rc2, rfl, (HP1.out.setCell hof).setCell hof, fun R hR _ => HP2.out R (by omega) (fun u hu => by simp at hu; subst hu; exact HR2.out R (by simp; omega)), by have hb4 := HR4.out; have hb5 := HP4.out; repeat' (first | (with_reducible exact Below.refl _ _) | (with_reducible assumption) | (with_reducible refine below_drewN ?_) | (with_reducible refine Below.alloc ?_ ?_ _) | (with_reducible refine Below.drew ?_) | (with_reducible refine Below.setCell ?_ ?_ _) | (with_reducible refine Below.trans ?_ (Below.mono (by with_reducible assumption) ?_)) | go_size)⟩ HS.out
    · have hsg : ¬ 0 ≤ sgn x.natAbs y.natAbs := fun h => hge (sgn_nonneg.1 h)
      have hle : x.natAbs ≤ y.natAbs := by omega
      have hs1 : x + y = if !s then -((y.natAbs - x.natAbs : Nat) : Int) else ((y.natAbs - x.natAbs : Nat) : Int) := by
        have h1 := HSX.out
        have h2 := HSY.out
        cases s <;> simp only [Bool.not_false, Bool.not_true, if_true, Bool.false_eq_true, if_false] at h1 h2 ⊢ <;> omega
      have HS := hid hs1
      have HGE := hid hle
      clear hs1 hle hge
      generalize sgn x.natAbs y.natAbs = sg at *
      go_wp2
      go_region_held3 (fun w' => w'.cell? ⟨w.heap.size + 1, 0, none⟩ = some (.bool (!s)) ∧ w'.cell? ⟨w.heap.size + 1, 1, none⟩ = some (.slice a' n' c') ∧ w'.cell? ⟨w.heap.size, 1, none⟩ = some (.slice a n c)) (first | exact ⟨k0, k1, k2⟩ | exact ⟨j0, j1, j2⟩ | (refine ⟨?_, ?_, ?_⟩ <;> (rw [World.cell?_setCell_other _ _ _ _ (by intro h; injection h with h; omega), World.cell?_setCell_other _ _ _ _ (by intro h; injection h with h; omega)]; assumption)) | go_keep)
        (first
          | (go_at_call 90; go_must ((refine (ref_sub _ _ _ _ _ (HY.out.kept (by repeat' (first | (with_reducible exact Below.refl _ _) | (with_reducible assumption) | (with_reducible refine below_drewN ?_) | (with_reducible refine Below.alloc ?_ ?_ _) | (with_reducible refine Below.drew ?_) | (with_reducible refine Below.setCell ?_ ?_ _) | (with_reducible refine Below.trans ?_ (Below.mono (by with_reducible assumption) ?_)) | go_size))) (HX.out.kept (by repeat' (first | (with_reducible exact Below.refl _ _) | (with_reducible assumption) | (with_reducible refine below_drewN ?_) | (with_reducible refine Below.alloc ?_ ?_ _) | (with_reducible refine Below.drew ?_) | (with_reducible refine Below.setCell ?_ ?_ _) | (with_reducible refine Below.trans ?_ (Below.mono (by with_reducible assumption) ?_)) | go_size))) (by rw [HN'.out]; exact HLY.out) (by rw [val_dig, val_dig]; exact HGE.out) (dig_length_mono HGE.out)).mono ?_; rintro e w1 ⟨ra, rc, rfl, hr1, hr2, hr4⟩; rw [val_dig, val_dig] at hr1 hr2; rw [val_dig, val_dig]; have hr3 := val_dig (y.natAbs - x.natAbs); have HR1 := hid hr1; have HR2 := hid hr2; have HR3 := hid hr3; have HR4 := hid hr4; have hz1 := hr4.size; clear hr1 hr2 hr3 hr4; simp at hz1; have k0 := cell_later HR4.out (a := ⟨w.heap.size + 1, 0, none⟩) (v := .bool (!s)) (by go_cell); have k1 := cell_later HR4.out (a := ⟨w.heap.size + 1, 1, none⟩) (v := .slice a' n' c') (by go_cell); have k2 := cell_later HR4.out (a := ⟨w.heap.size, 1, none⟩) (v := .slice a n c) (by go_cell); have k8 := cell_later HR4.out (a := ⟨w.heap.size + 1 + 1, 0, none⟩) (v := .bool false) (by go_cell); have k9 := cell_later HR4.out (a := ⟨w.heap.size + 1 + 1, 1, none⟩) (v := .slice none 0 0) (by go_cell); have f8 := frozen_later HR4.out (a := ⟨w.heap.size + 1 + 1, 0, none⟩) (v := .bool false) (by go_cell) (by simp [go_sem]); have f9 := frozen_later HR4.out (a := ⟨w.heap.size + 1 + 1, 1, none⟩) (v := .slice none 0 0) (by go_cell) (by simp [go_sem]))))
          | (go_at_call 88; go_must ((refine (ref_big _ _ _ _ HR1.out).mono ?_; rintro e w2 ⟨ra2, rc2, rfl, hr1, hr2, hr4⟩; rw [HR3.out] at hr1 hr2; rw [HR3.out]; have HP1 := hid hr1; have HP2 := hid hr2; have HP4 := hid hr4; have hz2 := hr4.size; clear hr1 hr2 hr4; have j0 := cell_later HP4.out k0; have j1 := cell_later HP4.out k1; have j2 := cell_later HP4.out k2; have j8 := cell_later HP4.out k8; have j9 := cell_later HP4.out k9; have g8 := frozen_later HP4.out k8 f8; have g9 := frozen_later HP4.out k9 f9))))
      go_wp2
      refine bodyPost_ret (by simp [results, Tryz.results56, go_sem, j8, j9]; rfl) rfl ?_
      have hof : Off (w.heap.size + 1 + 1) _ := HP2.out _ (by omega) (fun u hu => by simp at hu; subst hu; exact HR2.out _ (by simp))
      exact givesI_of (us := []) ⟨ra2, rc2, rfl, (HP1.out.setCell hof).setCell hof, fun R hR _ => HP2.out R (by omega) (fun u hu => by simp at hu; subst hu; exact HR2.out R (by simp; omega)), by have hb4 := HR4.out; have hb5 := HP4.out; repeat' (first | (with_reducible exact Below.refl _ _) | (with_reducible assumption) | (with_reducible refine below_drewN ?_) | (with_reducible refine Below.alloc ?_ ?_ _) | (with_reducible refine Below.drew ?_) | (with_reducible refine Below.setCell ?_ ?_ _) | (with_reducible refine Below.trans ?_ (Below.mono (by with_reducible assumption) ?_)) | go_size)⟩ HS.out

end Go.Proofs.YtfcccldofaleoaaGreatDoor.Fr
