/- Contracts of the reference's do, Run (chapter 38). -/
import Derived.Test.YthblaeleogdfpaaGreatDoorCToax
set_option linter.unusedVariables false
set_option linter.unusedSimpArgs false
namespace Go.Proofs.YthblaeleogdfpaaGreatDoor
open Go.RowKit
theorem canL_proj {n : Nat} {o : Po} (h : canL n o = true) (hk : o.kind = 3) : o.cols.all (thereL n) = true ∧ o.cols.length ≤ 64 := by
 rw [canL_3 hk] at h
 simp only [Bool.and_eq_true, decide_eq_true_eq] at h
 exact ⟨h.1, h.2.2⟩
def SomeT (w : World) (B : Nat) (id : Int) (nm : ByteArray) (ys : List Co) (e : Ending) (w' : World) : Prop :=
  ∃ v, e = .returned (.agg #[.int .i64 id, .string nm, v]) ∧ RdCo w' (fun b => b < B ∨ News w w' b) v ys ∧ Below w.heap.size w w'
set_option maxRecDepth 100000 in
set_option maxHeartbeats 4000000 in
theorem ref38_do (t : Ta) (v u : Value) (o : Po) (B : Nat) (w : World) (ht : TabV t) (hv : RdCo w (· < B) v t.cols) (hu : RdOp w B u o) (hB : B ≤ w.heap.size) (hT : Tabs w) (hcan : canL t.cols.length o = true) (htx : o.text.size ≤ 1099511627776) :
  Calls Tryz.prog 67 #[.agg #[.int .i64 t.id, .string t.name, v], o.val u] w (SomeT w B t.id t.name (doL t.cols o)) := by
 have hxl64 : t.cols.length ≤ 64 := ht.2.2.2.1
 by_cases hk : o.kind = 3
 ·obtain ⟨hp1, hp2⟩ := canL_proj hcan hk
  have HPR := hid (fun W (hW : Below w.heap.size w W) => ref03_Project t v u o.cols B W ht (hv.keep fun p (hp : p.block < B) => hW.cell (p := p) (by omega)) (hu.below hW hB) (Nat.le_trans hB hW.size) (hT.below hW) hp1 hp2)
  have HDO : Hid (doL t.cols o = projL t.cols o.cols) := hid (if_pos hk)
  rw [HDO.out]
  obtain ⟨ua, uc, rfl, -, -, -⟩ := hu
  obtain ⟨cv, ⟨va, vc, rfl, -, -, -⟩, -⟩ := hv
  clear hcan hp1 hp2 ht hT HDO
  obtain ⟨kind, col, text, cols⟩ := o
  obtain ⟨id, nm, xs⟩ := t
  simp only [Po.val] at *
  subst hk
  generalize projL xs cols = ys at *
  generalize xs.length = L at *
  generalize cols.length = m at *
  have HB0 := hid ((((Below.refl w.heap.size w).alloc (Nat.le_refl _) (.cells #[.int .i64 id, .string nm, .slice va L vc] 24)).alloc (by simp) (.cells #[.int .i64 3, .int .i64 col, .string text, .slice ua m uc] 56)).alloc (by simp; omega) (.cells #[.int .i64 0, .string ⟨#[]⟩, .slice none 0 0] 24))
  have hy0 := BoxN.new ((w.alloc (.cells #[.int .i64 id, .string nm, .slice va L vc] 24)).alloc (.cells #[.int .i64 3, .int .i64 col, .string text, .slice ua m uc] 56)) #[.int .i64 0, .string ⟨#[]⟩, .slice none 0 0] 24
  rw [World.size_alloc, World.size_alloc] at hy0
  have HY0 := hid hy0
  have hz0' : (((w.alloc (.cells #[.int .i64 id, .string nm, .slice va L vc] 24)).alloc (.cells #[.int .i64 3, .int .i64 col, .string text, .slice ua m uc] 56)).alloc (.cells #[.int .i64 0, .string ⟨#[]⟩, .slice none 0 0] 24)).heap.size = w.heap.size + 3 := by simp
  clear hy0
  go_enter Tryz.func67, Tryz.ntmps67
  go_wp2_with fail
  generalize ((w.alloc (.cells #[.int .i64 id, .string nm, .slice va L vc] 24)).alloc (.cells #[.int .i64 3, .int .i64 col, .string text, .slice ua m uc] 56)).alloc (.cells #[.int .i64 0, .string ⟨#[]⟩, .slice none 0 0] 24) = W0 at *
  with_reducible refine (HPR.out W0 HB0.out).mono ?_
  rintro e w1 ⟨y, rfl, hrd1, hb1⟩
  have hz1 := hb1.size
  have HY1 := hid (HY0.out.below hb1 (by omega))
  have HB1 := hid (HB0.out.trans (hb1.mono (by omega)))
  have HRD1 := hid hrd1
  obtain ⟨cy, ⟨ya, yc, rfl, -, -, -⟩, -⟩ := hrd1
  clear hb1 HPR
  generalize hyl : ys.length = k at *
  have HYL := hid hyl
  clear hyl
  have c0 := HY1.out.cell 0 rfl
  have c1 := HY1.out.cell 1 rfl
  have c2 := HY1.out.cell 2 rfl
  have f0 := HY1.out.frozen 0
  have f1 := HY1.out.frozen 1
  have f2 := HY1.out.frozen 2
  have HY2 := hid (HY1.out.alloc (.cells #[.int .i64 id, .string nm, .slice ya k yc] 24))
  have d0 := HY2.out.cell 0 rfl
  have d1 := HY2.out.cell 1 rfl
  have d2 := HY2.out.cell 2 rfl
  have g0 := HY2.out.frozen 0
  have g1 := HY2.out.frozen 1
  have g2 := HY2.out.frozen 2
  go_wp2
  refine bodyPost_ret (v := .agg #[.int .i64 id, .string nm, .slice ya k yc]) (by simp [results, Tryz.results67, go_sem, d0, d1, d2]) rfl ⟨_, rfl, ?_, by have h1 := HB1.out; repeat' (first | (with_reducible exact Below.refl _ _) | (with_reducible assumption) | (with_reducible refine below_drewN ?_) | (with_reducible refine Below.alloc ?_ ?_ _) | (with_reducible refine Below.drew ?_) | (with_reducible refine Below.setCell ?_ ?_ _) | (with_reducible refine Below.trans ?_ (Below.mono (by with_reducible assumption) ?_)) | go_size)⟩
  refine (HRD1.out.keep fun p hp => ?_).more fun b hb => ?_
  ·have hp' : p.block ≠ w.heap.size + 2 ∧ p.block < w1.heap.size := by
    rcases hp with hp | hp
    ·exact ⟨by omega, by omega⟩
    ·exact ⟨by have := hp.1; omega, hp.2⟩
   rw [World.cell?_setCell_other _ _ _ _ (by intro e; subst e; exact hp'.1 rfl), World.cell?_setCell_other _ _ _ _ (by intro e; subst e; exact hp'.1 rfl), World.cell?_setCell_other _ _ _ _ (by intro e; subst e; exact hp'.1 rfl)]
   exact World.cell?_alloc_lt _ _ _ hp'.2
  ·rcases hb with hb | hb
   ·exact .inl hb
   ·exact .inr ⟨by have := hb.1; omega, by have := hb.2; simp; omega⟩
 ·have HDO : Hid (doL t.cols o = selL t.cols (rowsL t.cols o (rowsC t.cols))) := hid (if_neg hk)
  obtain ⟨n, hn4, hx⟩ := ht.cv
  have hn : t.cols.length ≠ 0 → rowsC t.cols = n := fun h => rowsC_of hx (by omega)
  have hn0 : t.cols.length = 0 → rowsC t.cols = 0 := fun h => by rw [List.eq_nil_of_length_eq_zero h]; rfl
  obtain ⟨n', hn', hx', hn4'⟩ : ∃ n', rowsC t.cols = n' ∧ (∀ x ∈ t.cols, x.cells.length = n') ∧ n' ≤ 4096 := by
   by_cases h : t.cols.length = 0
   ·exact ⟨0, hn0 h, (fun x hx => by rw [List.eq_nil_of_length_eq_zero h] at hx; cases hx), by omega⟩
   ·exact ⟨n, hn h, fun x h => (hx x h).2.1, hn4⟩
  clear hn hn0 hx hn4
  have HRW := hid (fun W (hW : Below w.heap.size w W) => ref38_rows t.id t.name v u t.cols o B n' W (hv.keep fun p (hp : p.block < B) => hW.cell (p := p) (by omega)) (hu.below hW hB) (Nat.le_trans hB hW.size) hx' hn' hn4' hxl64 hcan hk htx)
  rw [HDO.out, hn']
  obtain ⟨hr1, hr2⟩ := rowsL_ok t.cols o n'
  have HSE := hid (fun W y (hW : Below w.heap.size w W) (hy : Rd W W.heap.size y (rowsL t.cols o n').length (natF (rowsL t.cols o n'))) => ref03_Select t v y (rowsL t.cols o n') W.heap.size n' W ht ((hv.keep fun p (hp : p.block < B) => hW.cell (p := p) (by omega)).more fun b (hb : b < B) => by show b < W.heap.size; have := hW.size; omega) hy (Nat.le_refl _) (hT.below hW) hx' hn' hr2 (by omega))
  clear hr1 hr2 hx' hn'
  obtain ⟨ua, uc, rfl, -, -, -⟩ := hu
  obtain ⟨cv, ⟨va, vc, rfl, -, -, -⟩, -⟩ := hv
  clear hcan ht hT HDO
  generalize rowsL t.cols o n' = rs at *
  obtain ⟨kind, col, text, cols⟩ := o
  obtain ⟨id, nm, xs⟩ := t
  simp only [Po.val] at *
  generalize selL xs rs = ys at *
  generalize xs.length = L at *
  generalize cols.length = m at *
  have hk1 : (kind == 3) = false := by simpa using hk
  have HX0 := hid (((BoxN.new w #[.int .i64 id, .string nm, .slice va L vc] 24).alloc (.cells #[.int .i64 kind, .int .i64 col, .string text, .slice ua m uc] 56)).alloc (.cells #[.int .i64 0, .string ⟨#[]⟩, .slice none 0 0] 24))
  have ho0 := (BoxN.new (w.alloc (.cells #[.int .i64 id, .string nm, .slice va L vc] 24)) #[.int .i64 kind, .int .i64 col, .string text, .slice ua m uc] 56).alloc (.cells #[.int .i64 0, .string ⟨#[]⟩, .slice none 0 0] 24)
  rw [World.size_alloc] at ho0
  have HO0 := hid ho0
  have HB0 := hid ((((Below.refl w.heap.size w).alloc (Nat.le_refl _) (.cells #[.int .i64 id, .string nm, .slice va L vc] 24)).alloc (by simp) (.cells #[.int .i64 kind, .int .i64 col, .string text, .slice ua m uc] 56)).alloc (by simp; omega) (.cells #[.int .i64 0, .string ⟨#[]⟩, .slice none 0 0] 24))
  have hy0 := BoxN.new ((w.alloc (.cells #[.int .i64 id, .string nm, .slice va L vc] 24)).alloc (.cells #[.int .i64 kind, .int .i64 col, .string text, .slice ua m uc] 56)) #[.int .i64 0, .string ⟨#[]⟩, .slice none 0 0] 24
  rw [World.size_alloc, World.size_alloc] at hy0
  have HY0 := hid hy0
  have hz0' : (((w.alloc (.cells #[.int .i64 id, .string nm, .slice va L vc] 24)).alloc (.cells #[.int .i64 kind, .int .i64 col, .string text, .slice ua m uc] 56)).alloc (.cells #[.int .i64 0, .string ⟨#[]⟩, .slice none 0 0] 24)).heap.size = w.heap.size + 3 := by simp
  clear hy0 ho0
  go_enter Tryz.func67, Tryz.ntmps67
  go_upto_region 4 with fail
  generalize ((w.alloc (.cells #[.int .i64 id, .string nm, .slice va L vc] 24)).alloc (.cells #[.int .i64 kind, .int .i64 col, .string text, .slice ua m uc] 56)).alloc (.cells #[.int .i64 0, .string ⟨#[]⟩, .slice none 0 0] 24) = W0 at *
  have t0 := HX0.out.cell 0 rfl
  have t1 := HX0.out.cell 1 rfl
  have t2 := HX0.out.cell 2 rfl
  have o0 := HO0.out.cell 0 rfl
  have o1 := HO0.out.cell 1 rfl
  have o2 := HO0.out.cell 2 rfl
  have o3 := HO0.out.cell 3 rfl
  have hz0w : w.heap.size ≤ W0.heap.size := by omega
  have HTT : Hid (∀ w', Below W0.heap.size W0 w' → w'.cell? ⟨w.heap.size, 0, none⟩ = some (.int .i64 id) ∧ w'.cell? ⟨w.heap.size, 1, none⟩ = some (.string nm) ∧ w'.cell? ⟨w.heap.size, 2, none⟩ = some (.slice va L vc) ∧ w'.cell? ⟨w.heap.size + 1, 0, none⟩ = some (.int .i64 kind) ∧ w'.cell? ⟨w.heap.size + 1, 1, none⟩ = some (.int .i64 col) ∧ w'.cell? ⟨w.heap.size + 1, 2, none⟩ = some (.string text) ∧ w'.cell? ⟨w.heap.size + 1, 3, none⟩ = some (.slice ua m uc)) := hid (fun w' h => ⟨(h.cell (p := ⟨w.heap.size, 0, none⟩) (by show w.heap.size < W0.heap.size; omega)).trans t0, (h.cell (p := ⟨w.heap.size, 1, none⟩) (by show w.heap.size < W0.heap.size; omega)).trans t1, (h.cell (p := ⟨w.heap.size, 2, none⟩) (by show w.heap.size < W0.heap.size; omega)).trans t2, (h.cell (p := ⟨w.heap.size + 1, 0, none⟩) (by show w.heap.size + 1 < W0.heap.size; omega)).trans o0, (h.cell (p := ⟨w.heap.size + 1, 1, none⟩) (by show w.heap.size + 1 < W0.heap.size; omega)).trans o1, (h.cell (p := ⟨w.heap.size + 1, 2, none⟩) (by show w.heap.size + 1 < W0.heap.size; omega)).trans o2, (h.cell (p := ⟨w.heap.size + 1, 3, none⟩) (by show w.heap.size + 1 < W0.heap.size; omega)).trans o3⟩)
  clear t0 t1 t2 o0 o1 o2 o3
  have HBd : Hid (Below W0.heap.size W0 W0.drew) := hid (by have h1 := Below.refl W0.heap.size W0; repeat' (first | (with_reducible exact Below.refl _ _) | (with_reducible assumption) | (with_reducible refine below_drewN ?_) | (with_reducible refine Below.alloc ?_ ?_ _) | (with_reducible refine Below.drew ?_) | (with_reducible refine Below.setCell ?_ ?_ _) | (with_reducible refine Below.trans ?_ (Below.mono (by with_reducible assumption) ?_)) | go_size))
  refine wp_region_before (st := 10) (T := fun w' => w'.cell? ⟨w.heap.size, 0, none⟩ = some (.int .i64 id) ∧ w'.cell? ⟨w.heap.size, 1, none⟩ = some (.string nm) ∧ w'.cell? ⟨w.heap.size, 2, none⟩ = some (.slice va L vc) ∧ w'.cell? ⟨w.heap.size + 1, 0, none⟩ = some (.int .i64 kind) ∧ w'.cell? ⟨w.heap.size + 1, 1, none⟩ = some (.int .i64 col) ∧ w'.cell? ⟨w.heap.size + 1, 2, none⟩ = some (.string text) ∧ w'.cell? ⟨w.heap.size + 1, 3, none⟩ = some (.slice ua m uc)) (S := fun _ => True) (by kernel_rfl) ?_
  generalize W0.drew = Wd at *
  refine wpAnyB_takeT (i := 0) (oi := ?o0_1) (v := ?v0_1) ?hi0_1 (by kernel_rfl) (by kernel_rfl) (by kernel_rfl) (by kernel_rfl) ?hq0_1 ?hy0_1 (fun _ => trivial) (HTT.out _ HBd.out) ?r0_1
  case hi0_1 => (simp only [List.getElem?_toArray, List.getElem?_cons_zero, List.getElem?_cons_succ]; exact rfl)
  case hq0_1 => exact fun _ _ _ h => h
  case hy0_1 =>
   refine Or.inl ⟨by rfl, fun w' hSw => ?_⟩
   (try dsimp only at hSw)
   (first | (go_simp; done) | (go_simp; with_reducible rfl))
  try simp only [Act.put, List.setIfInBounds_toArray, List.set]
  refine wpAnyB_takeT (i := 1) (oi := ?o1_2) (v := ?v1_2) ?hi1_2 (by kernel_rfl) (by kernel_rfl) (by kernel_rfl) (by kernel_rfl) ?hq1_2 ?hy1_2 (fun _ => trivial) (HTT.out _ HBd.out) ?r1_2
  case hi1_2 => (simp only [List.getElem?_toArray, List.getElem?_cons_zero, List.getElem?_cons_succ]; exact rfl)
  case hq1_2 => exact fun _ _ _ h => h
  case hy1_2 =>
   refine Or.inl ⟨by rfl, fun w' hSw => ?_⟩
   (try dsimp only at hSw)
   (first | (go_simp; done) | (go_simp; with_reducible rfl))
  try simp only [Act.put, List.setIfInBounds_toArray, List.set]
  refine wpAnyB_takeT (i := 2) (oi := ?o2_3) (v := ?v2_3) ?hi2_3 (by kernel_rfl) (by kernel_rfl) (by kernel_rfl) (by kernel_rfl) ?hq2_3 ?hy2_3 (fun _ => trivial) (HTT.out _ HBd.out) ?r2_3
  case hi2_3 => (simp only [List.getElem?_toArray, List.getElem?_cons_zero, List.getElem?_cons_succ]; exact rfl)
  case hq2_3 => exact fun _ _ _ h => h
  case hy2_3 =>
   refine Or.inl ⟨by rfl, fun w' hSw => ?_⟩
   (try dsimp only at hSw)
   (first | (go_simp; done) | (go_simp; with_reducible rfl))
  try simp only [Act.put, List.setIfInBounds_toArray, List.set]
  refine wpAnyB_ready (rs := [3, 8]) (by kernel_rfl) (by simp) ?_
  refine AllReadyB.cons rfl (fun K hK => ?_) ?_
  ·go_simp
   with_reducible refine (HRW.out _ (HB0.out.trans (HBd.out.mono hz0w))).mono ?_
   rintro e w1 ⟨y, rfl, hy1, hb1⟩
   have HB1 := hid (HBd.out.trans (hb1.mono HBd.out.size))
   have HY1 := hid hy1
   obtain ⟨ya, yc, rfl, -, -, -⟩ := hy1
   refine hK.out _ _ (fun _ => trivial) (HTT.out _ HB1.out) ?_
   try simp only [Act.put, List.setIfInBounds_toArray, List.set]
   clear hK K
   refine wpAnyB_ready (rs := [4, 8]) (by kernel_rfl) (by simp) ?_
   refine AllReadyB.cons rfl (fun K hK => ?_) ?_
   ·go_simp
    with_reducible refine (HSE.out _ _ (HB0.out.trans (HB1.out.mono hz0w)) HY1.out).mono ?_
    rintro e w2 ⟨y2, rfl, hrd2, hb2⟩
    have HB2 := hid (HB1.out.trans (hb2.mono HB1.out.size))
    have HRD2 := hid hrd2
    obtain ⟨cy, ⟨za, zc, rfl, -, -, -⟩, -⟩ := hrd2
    refine hK.out _ _ (fun _ => trivial) (HTT.out _ HB2.out) ?_
    try simp only [Act.put, List.setIfInBounds_toArray, List.set]
    clear hK K
    refine wpAnyB_takeT (i := 5) (oi := ?o5_4) (v := ?v5_4) ?hi5_4 (by kernel_rfl) (by kernel_rfl) (by kernel_rfl) (by kernel_rfl) ?hq5_4 ?hy5_4 (fun _ => trivial) (HTT.out _ HB2.out) ?r5_4
    case hi5_4 => (simp only [List.getElem?_toArray, List.getElem?_cons_zero, List.getElem?_cons_succ]; exact rfl)
    case hq5_4 => exact fun _ _ _ h => h
    case hy5_4 =>
     refine Or.inl ⟨by rfl, fun w' hSw => ?_⟩
     (try dsimp only at hSw)
     (first | (go_simp; done) | (go_simp; with_reducible rfl))
    try simp only [Act.put, List.setIfInBounds_toArray, List.set]
    refine wpAnyB_takeT (i := 6) (oi := ?o6_5) (v := ?v6_5) ?hi6_5 (by kernel_rfl) (by kernel_rfl) (by kernel_rfl) (by kernel_rfl) ?hq6_5 ?hy6_5 (fun _ => trivial) (HTT.out _ HB2.out) ?r6_5
    case hi6_5 => (simp only [List.getElem?_toArray, List.getElem?_cons_zero, List.getElem?_cons_succ]; exact rfl)
    case hq6_5 => exact fun _ _ _ h => h
    case hy6_5 =>
     refine Or.inl ⟨by rfl, fun w' hSw => ?_⟩
     (try dsimp only at hSw)
     (first | (go_simp; done) | (go_simp; with_reducible rfl))
    try simp only [Act.put, List.setIfInBounds_toArray, List.set]
    refine wpAnyB_takeT (i := 7) (oi := ?o7_6) (v := ?v7_6) ?hi7_6 (by kernel_rfl) (by kernel_rfl) (by kernel_rfl) (by kernel_rfl) ?hq7_6 ?hy7_6 (fun _ => trivial) (HTT.out _ HB2.out) ?r7_6
    case hi7_6 => (simp only [List.getElem?_toArray, List.getElem?_cons_zero, List.getElem?_cons_succ]; exact rfl)
    case hq7_6 => exact fun _ _ _ h => h
    case hy7_6 =>
     refine Or.inl ⟨by rfl, fun w' hSw => ?_⟩
     (try dsimp only at hSw)
     (first | (go_simp; done) | (go_simp; with_reducible rfl))
    try simp only [Act.put, List.setIfInBounds_toArray, List.set]
    refine wpAnyB_ready (rs := [8]) (by kernel_rfl) (by simp) ?_
    refine AllReadyB.cons rfl (fun K hK => ?_) AllReadyB.nil
    go_simp
    have HB3 := hid (HB2.out.alloc HB2.out.size (.cells #[.int .i64 0, .string ⟨#[]⟩, .slice none 0 0] 24))
    refine hK.out _ _ (fun _ => trivial) (HTT.out _ HB3.out) ?_
    try simp only [Act.put, List.setIfInBounds_toArray, List.set]
    clear hK K
    have HDB := hid (BoxN.new w2 #[.int .i64 0, .string ⟨#[]⟩, .slice none 0 0] 24)
    generalize hW3 : w2.alloc (.cells #[.int .i64 0, .string ⟨#[]⟩, .slice none 0 0] 24) = W3 at *
    refine wpAnyB_ready (rs := [9]) (by kernel_rfl) (by simp) ?_
    refine AllReadyB.cons rfl (fun K hK => ?_) AllReadyB.nil
    have d0 := HDB.out.cell 0 rfl
    have d1 := HDB.out.cell 1 rfl
    have d2 := HDB.out.cell 2 rfl
    have df0 := HDB.out.frozen 0
    have df1 := HDB.out.frozen 1
    have df2 := HDB.out.frozen 2
    have hdz : W0.heap.size ≤ w2.heap.size := HB2.out.size
    have HRX : Hid (RdCo W3 (fun b => w.heap.size + 3 ≤ b ∧ b < W3.heap.size ∧ b ≠ w2.heap.size) (.slice za ys.length zc) ys) := hid (by rw [← hW3]; exact (HRD2.out.keep fun p hp => World.cell?_alloc_lt _ _ _ (by rcases hp with h | h; exact absurd h (by omega); exact h.2)).more fun b hb => by rcases hb with h | h; exact absurd h (by omega); exact ⟨by have := h.1; have h2 := HB1.out.size; omega, by have := h.2; simp; omega, by have := h.2; omega⟩)
    generalize hdd : w2.heap.size = db at *
    go_simp
    have HBS : Hid (Below W0.heap.size W0 ((((W3).setCell ⟨db, 0, none⟩ (.int .i64 id)).setCell ⟨db, 1, none⟩ (.string nm)).setCell ⟨db, 2, none⟩ (.slice za ys.length zc))) := hid (by have h1 := HB3.out; repeat' (first | (with_reducible exact Below.refl _ _) | (with_reducible assumption) | (with_reducible refine below_drewN ?_) | (with_reducible refine Below.alloc ?_ ?_ _) | (with_reducible refine Below.drew ?_) | (with_reducible refine Below.setCell ?_ ?_ _) | (with_reducible refine Below.trans ?_ (Below.mono (by with_reducible assumption) ?_)) | go_size))
    refine hK.out _ _ (fun _ => trivial) (HTT.out _ HBS.out) ?_
    try simp only [Act.put, List.setIfInBounds_toArray, List.set]
    clear hK K
    refine wpAnyB_ready (rs := [10]) (by kernel_rfl) (by simp) ?_
    refine AllReadyB.cons rfl (fun K hK => ?_) AllReadyB.nil
    go_simp
    refine hK.out _ _ (fun _ => trivial) (HTT.out _ HBS.out) ?_
    try simp only [Act.put, List.setIfInBounds_toArray, List.set]
    clear hK K
    refine wpAnyB_done (by kernel_rfl) ?_ _
    have hne2 : db ≠ w.heap.size + 2 := by omega
    have HYX := hid (HY0.out.below HB3.out (by omega))
    have HDF := hid (((HDB.out.set 0 (.int .i64 id)).set 1 (.string nm)).set 2 (.slice za ys.length zc))
    have HYF := hid (((HYX.out.other (p := ⟨db, 0, none⟩) hne2 (.int .i64 id)).other (p := ⟨db, 1, none⟩) hne2 (.string nm)).other (p := ⟨db, 2, none⟩) hne2 (.slice za ys.length zc))
    have HWF : Hid (∀ p : Addr, p.block ≠ db → (((W3.setCell ⟨db, 0, none⟩ (.int .i64 id)).setCell ⟨db, 1, none⟩ (.string nm)).setCell ⟨db, 2, none⟩ (.slice za ys.length zc)).cell? p = W3.cell? p) := hid (fun p hp => by rw [World.cell?_setCell_other _ _ _ _ (by intro e; subst e; exact hp rfl), World.cell?_setCell_other _ _ _ _ (by intro e; subst e; exact hp rfl), World.cell?_setCell_other _ _ _ _ (by intro e; subst e; exact hp rfl)])
    have HZF : Hid (W3.heap.size = (((W3.setCell ⟨db, 0, none⟩ (.int .i64 id)).setCell ⟨db, 1, none⟩ (.string nm)).setCell ⟨db, 2, none⟩ (.slice za ys.length zc)).heap.size) := hid (by simp)
    clear d0 d1 d2 df0 df1 df2
    generalize ((W3.setCell ⟨db, 0, none⟩ (.int .i64 id)).setCell ⟨db, 1, none⟩ (.string nm)).setCell ⟨db, 2, none⟩ (.slice za ys.length zc) = WF at *
    have d0 := HDF.out.cell 0 rfl
    have c0 := HYF.out.cell 0 rfl
    have f0 := HYF.out.frozen 0
    have d1 := HDF.out.cell 1 rfl
    have c1 := HYF.out.cell 1 rfl
    have f1 := HYF.out.frozen 1
    have d2 := HDF.out.cell 2 rfl
    have c2 := HYF.out.cell 2 rfl
    have f2 := HYF.out.frozen 2
    go_wp2
    refine bodyPost_ret (v := .agg #[.int .i64 id, .string nm, .slice za ys.length zc]) (by simp [results, Tryz.results67, go_sem, c0, c1, c2]) rfl ⟨_, rfl, ?_, by have h1 := HB0.out.trans (HBS.out.mono hz0w); repeat' (first | (with_reducible exact Below.refl _ _) | (with_reducible assumption) | (with_reducible refine below_drewN ?_) | (with_reducible refine Below.alloc ?_ ?_ _) | (with_reducible refine Below.drew ?_) | (with_reducible refine Below.setCell ?_ ?_ _) | (with_reducible refine Below.trans ?_ (Below.mono (by with_reducible assumption) ?_)) | go_size)⟩
    refine (HRX.out.keep fun p hp => ?_).more fun b hb => .inr ⟨by have := hb.1; omega, by have := hb.2.1; have h2 := HZF.out; simp; omega⟩
    rw [World.cell?_setCell_other _ _ _ _ (by intro e; subst e; have := hp.1; simp at this; omega), World.cell?_setCell_other _ _ _ _ (by intro e; subst e; have := hp.1; simp at this; omega), World.cell?_setCell_other _ _ _ _ (by intro e; subst e; have := hp.1; simp at this; omega)]
    exact HWF.out p hp.2.2
   refine AllReadyB.cons rfl (fun K hK => ?_) ?_
   ·go_simp
    have HB3 := hid (HB1.out.alloc HB1.out.size (.cells #[.int .i64 0, .string ⟨#[]⟩, .slice none 0 0] 24))
    refine hK.out _ _ (fun _ => trivial) (HTT.out _ HB3.out) ?_
    try simp only [Act.put, List.setIfInBounds_toArray, List.set]
    clear hK K
    refine wpAnyB_ready (rs := [4]) (by kernel_rfl) (by simp) ?_
    refine AllReadyB.cons rfl (fun K hK => ?_) AllReadyB.nil
    go_simp
    with_reducible refine (HSE.out _ _ (HB0.out.trans (HB3.out.mono hz0w)) ((HY1.out.below ((Below.refl _ _).alloc (Nat.le_refl _) (.cells #[.int .i64 0, .string ⟨#[]⟩, .slice none 0 0] 24)) (Nat.le_refl _)).more (by simp))).mono ?_
    rintro e w2 ⟨y2, rfl, hrd2, hb2⟩
    have HB2 := hid (HB3.out.trans (hb2.mono HB3.out.size))
    have HRD2 := hid hrd2
    obtain ⟨cy, ⟨za, zc, rfl, -, -, -⟩, -⟩ := hrd2
    refine hK.out _ _ (fun _ => trivial) (HTT.out _ HB2.out) ?_
    try simp only [Act.put, List.setIfInBounds_toArray, List.set]
    clear hK K
    refine wpAnyB_takeT (i := 5) (oi := ?o5_7) (v := ?v5_7) ?hi5_7 (by kernel_rfl) (by kernel_rfl) (by kernel_rfl) (by kernel_rfl) ?hq5_7 ?hy5_7 (fun _ => trivial) (HTT.out _ HB2.out) ?r5_7
    case hi5_7 => (simp only [List.getElem?_toArray, List.getElem?_cons_zero, List.getElem?_cons_succ]; exact rfl)
    case hq5_7 => exact fun _ _ _ h => h
    case hy5_7 =>
     refine Or.inl ⟨by rfl, fun w' hSw => ?_⟩
     (try dsimp only at hSw)
     (first | (go_simp; done) | (go_simp; with_reducible rfl))
    try simp only [Act.put, List.setIfInBounds_toArray, List.set]
    refine wpAnyB_takeT (i := 6) (oi := ?o6_8) (v := ?v6_8) ?hi6_8 (by kernel_rfl) (by kernel_rfl) (by kernel_rfl) (by kernel_rfl) ?hq6_8 ?hy6_8 (fun _ => trivial) (HTT.out _ HB2.out) ?r6_8
    case hi6_8 => (simp only [List.getElem?_toArray, List.getElem?_cons_zero, List.getElem?_cons_succ]; exact rfl)
    case hq6_8 => exact fun _ _ _ h => h
    case hy6_8 =>
     refine Or.inl ⟨by rfl, fun w' hSw => ?_⟩
     (try dsimp only at hSw)
     (first | (go_simp; done) | (go_simp; with_reducible rfl))
    try simp only [Act.put, List.setIfInBounds_toArray, List.set]
    refine wpAnyB_takeT (i := 7) (oi := ?o7_9) (v := ?v7_9) ?hi7_9 (by kernel_rfl) (by kernel_rfl) (by kernel_rfl) (by kernel_rfl) ?hq7_9 ?hy7_9 (fun _ => trivial) (HTT.out _ HB2.out) ?r7_9
    case hi7_9 => (simp only [List.getElem?_toArray, List.getElem?_cons_zero, List.getElem?_cons_succ]; exact rfl)
    case hq7_9 => exact fun _ _ _ h => h
    case hy7_9 =>
     refine Or.inl ⟨by rfl, fun w' hSw => ?_⟩
     (try dsimp only at hSw)
     (first | (go_simp; done) | (go_simp; with_reducible rfl))
    try simp only [Act.put, List.setIfInBounds_toArray, List.set]
    have HDB := hid ((BoxN.new w1 #[.int .i64 0, .string ⟨#[]⟩, .slice none 0 0] 24).below hb2 (by simp))
    refine wpAnyB_ready (rs := [9]) (by kernel_rfl) (by simp) ?_
    refine AllReadyB.cons rfl (fun K hK => ?_) AllReadyB.nil
    have d0 := HDB.out.cell 0 rfl
    have d1 := HDB.out.cell 1 rfl
    have d2 := HDB.out.cell 2 rfl
    have df0 := HDB.out.frozen 0
    have df1 := HDB.out.frozen 1
    have df2 := HDB.out.frozen 2
    have hdz : W0.heap.size ≤ w1.heap.size := HB1.out.size
    have HRX : Hid (RdCo w2 (fun b => w.heap.size + 3 ≤ b ∧ b < w2.heap.size ∧ b ≠ w1.heap.size) (.slice za ys.length zc) ys) := hid (HRD2.out.more fun b hb => by rcases hb with h | h; exact absurd h (by omega); exact ⟨by have := h.1; simp at this; have h2 := HB1.out.size; omega, h.2, by have := h.1; simp at this; omega⟩)
    generalize hdd : w1.heap.size = db at *
    go_simp
    have HBS : Hid (Below W0.heap.size W0 ((((w2).setCell ⟨db, 0, none⟩ (.int .i64 id)).setCell ⟨db, 1, none⟩ (.string nm)).setCell ⟨db, 2, none⟩ (.slice za ys.length zc))) := hid (by have h1 := HB2.out; repeat' (first | (with_reducible exact Below.refl _ _) | (with_reducible assumption) | (with_reducible refine below_drewN ?_) | (with_reducible refine Below.alloc ?_ ?_ _) | (with_reducible refine Below.drew ?_) | (with_reducible refine Below.setCell ?_ ?_ _) | (with_reducible refine Below.trans ?_ (Below.mono (by with_reducible assumption) ?_)) | go_size))
    refine hK.out _ _ (fun _ => trivial) (HTT.out _ HBS.out) ?_
    try simp only [Act.put, List.setIfInBounds_toArray, List.set]
    clear hK K
    refine wpAnyB_ready (rs := [10]) (by kernel_rfl) (by simp) ?_
    refine AllReadyB.cons rfl (fun K hK => ?_) AllReadyB.nil
    go_simp
    refine hK.out _ _ (fun _ => trivial) (HTT.out _ HBS.out) ?_
    try simp only [Act.put, List.setIfInBounds_toArray, List.set]
    clear hK K
    refine wpAnyB_done (by kernel_rfl) ?_ _
    have hne2 : db ≠ w.heap.size + 2 := by omega
    have HYX := hid (HY0.out.below HB2.out (by omega))
    have HDF := hid (((HDB.out.set 0 (.int .i64 id)).set 1 (.string nm)).set 2 (.slice za ys.length zc))
    have HYF := hid (((HYX.out.other (p := ⟨db, 0, none⟩) hne2 (.int .i64 id)).other (p := ⟨db, 1, none⟩) hne2 (.string nm)).other (p := ⟨db, 2, none⟩) hne2 (.slice za ys.length zc))
    have HWF : Hid (∀ p : Addr, p.block ≠ db → (((w2.setCell ⟨db, 0, none⟩ (.int .i64 id)).setCell ⟨db, 1, none⟩ (.string nm)).setCell ⟨db, 2, none⟩ (.slice za ys.length zc)).cell? p = w2.cell? p) := hid (fun p hp => by rw [World.cell?_setCell_other _ _ _ _ (by intro e; subst e; exact hp rfl), World.cell?_setCell_other _ _ _ _ (by intro e; subst e; exact hp rfl), World.cell?_setCell_other _ _ _ _ (by intro e; subst e; exact hp rfl)])
    have HZF : Hid (w2.heap.size = (((w2.setCell ⟨db, 0, none⟩ (.int .i64 id)).setCell ⟨db, 1, none⟩ (.string nm)).setCell ⟨db, 2, none⟩ (.slice za ys.length zc)).heap.size) := hid (by simp)
    clear d0 d1 d2 df0 df1 df2
    generalize ((w2.setCell ⟨db, 0, none⟩ (.int .i64 id)).setCell ⟨db, 1, none⟩ (.string nm)).setCell ⟨db, 2, none⟩ (.slice za ys.length zc) = WF at *
    have d0 := HDF.out.cell 0 rfl
    have c0 := HYF.out.cell 0 rfl
    have f0 := HYF.out.frozen 0
    have d1 := HDF.out.cell 1 rfl
    have c1 := HYF.out.cell 1 rfl
    have f1 := HYF.out.frozen 1
    have d2 := HDF.out.cell 2 rfl
    have c2 := HYF.out.cell 2 rfl
    have f2 := HYF.out.frozen 2
    go_wp2
    refine bodyPost_ret (v := .agg #[.int .i64 id, .string nm, .slice za ys.length zc]) (by simp [results, Tryz.results67, go_sem, c0, c1, c2]) rfl ⟨_, rfl, ?_, by have h1 := HB0.out.trans (HBS.out.mono hz0w); repeat' (first | (with_reducible exact Below.refl _ _) | (with_reducible assumption) | (with_reducible refine below_drewN ?_) | (with_reducible refine Below.alloc ?_ ?_ _) | (with_reducible refine Below.drew ?_) | (with_reducible refine Below.setCell ?_ ?_ _) | (with_reducible refine Below.trans ?_ (Below.mono (by with_reducible assumption) ?_)) | go_size)⟩
    refine (HRX.out.keep fun p hp => ?_).more fun b hb => .inr ⟨by have := hb.1; omega, by have := hb.2.1; have h2 := HZF.out; simp; omega⟩
    rw [World.cell?_setCell_other _ _ _ _ (by intro e; subst e; have := hp.1; simp at this; omega), World.cell?_setCell_other _ _ _ _ (by intro e; subst e; have := hp.1; simp at this; omega), World.cell?_setCell_other _ _ _ _ (by intro e; subst e; have := hp.1; simp at this; omega)]
    exact HWF.out p hp.2.2
   exact AllReadyB.nil
  refine AllReadyB.cons rfl (fun K hK => ?_) ?_
  ·go_simp
   have HB3 := hid (HBd.out.alloc HBd.out.size (.cells #[.int .i64 0, .string ⟨#[]⟩, .slice none 0 0] 24))
   refine hK.out _ _ (fun _ => trivial) (HTT.out _ HB3.out) ?_
   try simp only [Act.put, List.setIfInBounds_toArray, List.set]
   clear hK K
   refine wpAnyB_ready (rs := [3]) (by kernel_rfl) (by simp) ?_
   refine AllReadyB.cons rfl (fun K hK => ?_) AllReadyB.nil
   go_simp
   with_reducible refine (HRW.out _ (HB0.out.trans (HB3.out.mono hz0w))).mono ?_
   rintro e w1 ⟨y, rfl, hy1, hb1⟩
   have HB1 := hid (HB3.out.trans (hb1.mono HB3.out.size))
   have HY1 := hid hy1
   obtain ⟨ya, yc, rfl, -, -, -⟩ := hy1
   refine hK.out _ _ (fun _ => trivial) (HTT.out _ HB1.out) ?_
   try simp only [Act.put, List.setIfInBounds_toArray, List.set]
   clear hK K
   refine wpAnyB_ready (rs := [4]) (by kernel_rfl) (by simp) ?_
   refine AllReadyB.cons rfl (fun K hK => ?_) AllReadyB.nil
   go_simp
   with_reducible refine (HSE.out _ _ (HB0.out.trans (HB1.out.mono hz0w)) HY1.out).mono ?_
   rintro e w2 ⟨y2, rfl, hrd2, hb2⟩
   have HB2 := hid (HB1.out.trans (hb2.mono HB1.out.size))
   have HRD2 := hid hrd2
   obtain ⟨cy, ⟨za, zc, rfl, -, -, -⟩, -⟩ := hrd2
   refine hK.out _ _ (fun _ => trivial) (HTT.out _ HB2.out) ?_
   try simp only [Act.put, List.setIfInBounds_toArray, List.set]
   clear hK K
   refine wpAnyB_takeT (i := 5) (oi := ?o5_10) (v := ?v5_10) ?hi5_10 (by kernel_rfl) (by kernel_rfl) (by kernel_rfl) (by kernel_rfl) ?hq5_10 ?hy5_10 (fun _ => trivial) (HTT.out _ HB2.out) ?r5_10
   case hi5_10 => (simp only [List.getElem?_toArray, List.getElem?_cons_zero, List.getElem?_cons_succ]; exact rfl)
   case hq5_10 => exact fun _ _ _ h => h
   case hy5_10 =>
    refine Or.inl ⟨by rfl, fun w' hSw => ?_⟩
    (try dsimp only at hSw)
    (first | (go_simp; done) | (go_simp; with_reducible rfl))
   try simp only [Act.put, List.setIfInBounds_toArray, List.set]
   refine wpAnyB_takeT (i := 6) (oi := ?o6_11) (v := ?v6_11) ?hi6_11 (by kernel_rfl) (by kernel_rfl) (by kernel_rfl) (by kernel_rfl) ?hq6_11 ?hy6_11 (fun _ => trivial) (HTT.out _ HB2.out) ?r6_11
   case hi6_11 => (simp only [List.getElem?_toArray, List.getElem?_cons_zero, List.getElem?_cons_succ]; exact rfl)
   case hq6_11 => exact fun _ _ _ h => h
   case hy6_11 =>
    refine Or.inl ⟨by rfl, fun w' hSw => ?_⟩
    (try dsimp only at hSw)
    (first | (go_simp; done) | (go_simp; with_reducible rfl))
   try simp only [Act.put, List.setIfInBounds_toArray, List.set]
   refine wpAnyB_takeT (i := 7) (oi := ?o7_12) (v := ?v7_12) ?hi7_12 (by kernel_rfl) (by kernel_rfl) (by kernel_rfl) (by kernel_rfl) ?hq7_12 ?hy7_12 (fun _ => trivial) (HTT.out _ HB2.out) ?r7_12
   case hi7_12 => (simp only [List.getElem?_toArray, List.getElem?_cons_zero, List.getElem?_cons_succ]; exact rfl)
   case hq7_12 => exact fun _ _ _ h => h
   case hy7_12 =>
    refine Or.inl ⟨by rfl, fun w' hSw => ?_⟩
    (try dsimp only at hSw)
    (first | (go_simp; done) | (go_simp; with_reducible rfl))
   try simp only [Act.put, List.setIfInBounds_toArray, List.set]
   have HDB := hid (((BoxN.new Wd #[.int .i64 0, .string ⟨#[]⟩, .slice none 0 0] 24).below hb1 (by simp)).below hb2 (Nat.lt_of_lt_of_le (by simp) hb1.size))
   refine wpAnyB_ready (rs := [9]) (by kernel_rfl) (by simp) ?_
   refine AllReadyB.cons rfl (fun K hK => ?_) AllReadyB.nil
   have d0 := HDB.out.cell 0 rfl
   have d1 := HDB.out.cell 1 rfl
   have d2 := HDB.out.cell 2 rfl
   have df0 := HDB.out.frozen 0
   have df1 := HDB.out.frozen 1
   have df2 := HDB.out.frozen 2
   have hdz : W0.heap.size ≤ Wd.heap.size := HBd.out.size
   have HRX : Hid (RdCo w2 (fun b => w.heap.size + 3 ≤ b ∧ b < w2.heap.size ∧ b ≠ Wd.heap.size) (.slice za ys.length zc) ys) := hid (HRD2.out.more fun b hb => by rcases hb with h | h; exact absurd h (by omega); exact ⟨by have := h.1; have h2 := HB1.out.size; omega, h.2, by have := h.1; have h2 := hb1.size; simp at h2; omega⟩)
   generalize hdd : Wd.heap.size = db at *
   go_simp
   have HBS : Hid (Below W0.heap.size W0 ((((w2).setCell ⟨db, 0, none⟩ (.int .i64 id)).setCell ⟨db, 1, none⟩ (.string nm)).setCell ⟨db, 2, none⟩ (.slice za ys.length zc))) := hid (by have h1 := HB2.out; repeat' (first | (with_reducible exact Below.refl _ _) | (with_reducible assumption) | (with_reducible refine below_drewN ?_) | (with_reducible refine Below.alloc ?_ ?_ _) | (with_reducible refine Below.drew ?_) | (with_reducible refine Below.setCell ?_ ?_ _) | (with_reducible refine Below.trans ?_ (Below.mono (by with_reducible assumption) ?_)) | go_size))
   refine hK.out _ _ (fun _ => trivial) (HTT.out _ HBS.out) ?_
   try simp only [Act.put, List.setIfInBounds_toArray, List.set]
   clear hK K
   refine wpAnyB_ready (rs := [10]) (by kernel_rfl) (by simp) ?_
   refine AllReadyB.cons rfl (fun K hK => ?_) AllReadyB.nil
   go_simp
   refine hK.out _ _ (fun _ => trivial) (HTT.out _ HBS.out) ?_
   try simp only [Act.put, List.setIfInBounds_toArray, List.set]
   clear hK K
   refine wpAnyB_done (by kernel_rfl) ?_ _
   have hne2 : db ≠ w.heap.size + 2 := by omega
   have HYX := hid (HY0.out.below HB2.out (by omega))
   have HDF := hid (((HDB.out.set 0 (.int .i64 id)).set 1 (.string nm)).set 2 (.slice za ys.length zc))
   have HYF := hid (((HYX.out.other (p := ⟨db, 0, none⟩) hne2 (.int .i64 id)).other (p := ⟨db, 1, none⟩) hne2 (.string nm)).other (p := ⟨db, 2, none⟩) hne2 (.slice za ys.length zc))
   have HWF : Hid (∀ p : Addr, p.block ≠ db → (((w2.setCell ⟨db, 0, none⟩ (.int .i64 id)).setCell ⟨db, 1, none⟩ (.string nm)).setCell ⟨db, 2, none⟩ (.slice za ys.length zc)).cell? p = w2.cell? p) := hid (fun p hp => by rw [World.cell?_setCell_other _ _ _ _ (by intro e; subst e; exact hp rfl), World.cell?_setCell_other _ _ _ _ (by intro e; subst e; exact hp rfl), World.cell?_setCell_other _ _ _ _ (by intro e; subst e; exact hp rfl)])
   have HZF : Hid (w2.heap.size = (((w2.setCell ⟨db, 0, none⟩ (.int .i64 id)).setCell ⟨db, 1, none⟩ (.string nm)).setCell ⟨db, 2, none⟩ (.slice za ys.length zc)).heap.size) := hid (by simp)
   clear d0 d1 d2 df0 df1 df2
   generalize ((w2.setCell ⟨db, 0, none⟩ (.int .i64 id)).setCell ⟨db, 1, none⟩ (.string nm)).setCell ⟨db, 2, none⟩ (.slice za ys.length zc) = WF at *
   have d0 := HDF.out.cell 0 rfl
   have c0 := HYF.out.cell 0 rfl
   have f0 := HYF.out.frozen 0
   have d1 := HDF.out.cell 1 rfl
   have c1 := HYF.out.cell 1 rfl
   have f1 := HYF.out.frozen 1
   have d2 := HDF.out.cell 2 rfl
   have c2 := HYF.out.cell 2 rfl
   have f2 := HYF.out.frozen 2
   go_wp2
   refine bodyPost_ret (v := .agg #[.int .i64 id, .string nm, .slice za ys.length zc]) (by simp [results, Tryz.results67, go_sem, c0, c1, c2]) rfl ⟨_, rfl, ?_, by have h1 := HB0.out.trans (HBS.out.mono hz0w); repeat' (first | (with_reducible exact Below.refl _ _) | (with_reducible assumption) | (with_reducible refine below_drewN ?_) | (with_reducible refine Below.alloc ?_ ?_ _) | (with_reducible refine Below.drew ?_) | (with_reducible refine Below.setCell ?_ ?_ _) | (with_reducible refine Below.trans ?_ (Below.mono (by with_reducible assumption) ?_)) | go_size)⟩
   refine (HRX.out.keep fun p hp => ?_).more fun b hb => .inr ⟨by have := hb.1; omega, by have := hb.2.1; have h2 := HZF.out; simp; omega⟩
   rw [World.cell?_setCell_other _ _ _ _ (by intro e; subst e; have := hp.1; simp at this; omega), World.cell?_setCell_other _ _ _ _ (by intro e; subst e; have := hp.1; simp at this; omega), World.cell?_setCell_other _ _ _ _ (by intro e; subst e; have := hp.1; simp at this; omega)]
   exact HWF.out p hp.2.2
  exact AllReadyB.nil
end Go.Proofs.YthblaeleogdfpaaGreatDoor
