/- Contract of explain.does: an operation that can be done, on a table of few rows. -/
import Derived.Test.YtaajpliifdlokaaGreatDoorLnNrar
import Derived.Test.YtaajpliifdlokaaGreatDoorLnNrat
import Derived.Test.YtaajpliifdlokaaGreatDoorLnNrau
import Derived.Test.YtaajpliifdlokaaGreatDoorLnNrae
set_option linter.unusedVariables false
set_option linter.unusedSimpArgs false
namespace Go.Proofs.YtaajpliifdlokaaGreatDoor
open Go.RowKit
theorem field_does (a b c d : Value) (W : World) : (Instr.field 237 (.agg #[a, b, c, d]) 3).run Tryz.prog W = .ok d W := by
  have h1 := run_underlying (P := Tryz.prog) (w := W) (t := 237) Tryz.underlying237
  have h2 : (isAgg 123).run Tryz.prog W = .ok false W := by
    have h3 := run_underlying (P := Tryz.prog) (w := W) (t := 123) Tryz.underlying123
    simp [isAgg, h3]
  simp [Instr.field, h1, asAgg, part, h2]
theorem can_col {n : Nat} {o : Po} (hk : o.kind = 1 ∨ o.kind = 2 ∨ o.kind = 5) (h : canL n o = true) : 0 ≤ o.col ∧ o.col < (n : Int) := by
  have ht : thereL n o.col = true := by
    unfold canL at h
    rcases hk with e | e | e
    · rw [if_pos e] at h; simp only [Bool.and_eq_true] at h; exact h.1.1
    · rw [if_neg (by omega), if_pos (by omega)] at h; simp only [Bool.and_eq_true] at h; exact h.1.1
    · rw [if_neg (by omega), if_pos (by omega)] at h; simp only [Bool.and_eq_true] at h; exact h.1.1
  unfold thereL at ht
  simpa using ht
theorem can_ks {n : Nat} {o : Po} (h : canL n o = true) (hk : o.kind = 3) : o.cols.all (thereL n) = true ∧ o.cols.length ≤ 64 := by
  unfold canL at h
  rw [if_neg (by omega), if_neg (by omega), if_pos hk] at h
  simp only [Bool.and_eq_true, decide_eq_true_eq] at h
  exact ⟨h.1, h.2.2⟩
theorem can_kind {n : Nat} {o : Po} (h : canL n o = true) : o.kind = 1 ∨ o.kind = 2 ∨ o.kind = 3 ∨ o.kind = 4 ∨ o.kind = 5 := by
  unfold canL at h
  by_cases h1 : o.kind = 1
  · omega
  · by_cases h2 : o.kind = 2 ∨ o.kind = 5
    · omega
    · by_cases h3 : o.kind = 3
      · omega
      · rw [if_neg h1, if_neg h2, if_neg h3] at h
        simp only [Bool.and_eq_true, decide_eq_true_eq] at h
        omega
set_option maxRecDepth 100000 in
set_option maxHeartbeats 4000000 in
theorem expl_does1 (o : Po) (hk : o.kind = 1) (id : Int) (nm : ByteArray) (v u : Value) (xs : List Co) (B : Nat) (w : World) (hv : RdCo w (· < B) v xs) (hu : RdOp w B u o) (hB : B ≤ w.heap.size) (hx : Few xs) (hl : xs.length ≤ 64) (hcan : canL xs.length o = true) :
  Calls Tryz.prog 170 #[.agg #[.int .i64 id, .string nm, v], o.val u] w (NewT w id nm (doL xs o)) := by
 have hkeep := fun W (hW : Below w.heap.size w W) => (hv.keep fun p (hp : p.block < B) => hW.cell (p := p) (by omega) : RdCo W (· < B) v xs)
 have hu' : ∃ ua un uc, u = .slice ua un uc := by
  obtain ⟨a, c, e, -⟩ := hu
  exact ⟨_, _, _, e⟩
 have hcol : 0 ≤ o.col ∧ o.col < xs.length := can_col (by omega) hcan
 have HF := hid (fun W (hW : Below w.heap.size w W) => expl_keep o (by omega) id nm v u xs (rowsC xs) B W (hkeep W hW) (Nat.le_trans hB hW.size) hcol (by omega) hx.cells rfl (by have := hx.rows; omega) hu')
 obtain ⟨va, vc, rfl⟩ : ∃ a c, v = .slice a xs.length c := by
  obtain ⟨cv, ⟨a, c, e, -⟩, -⟩ := hv
  exact ⟨a, c, e⟩
 obtain ⟨ua, un, uc, rfl⟩ := hu'
 clear hv hu hkeep hx hcan
 obtain ⟨kind, col, text, cols⟩ := o
 simp only [Po.val] at *
 subst hk
 generalize hys : doL xs _ = ys at *
 clear hys
 generalize xs.length = L at *
 have HX0 := hid (((BoxN.new w #[.int .i64 id, .string nm, .slice va L vc] 51).alloc (.cells #[.int .i64 1, .int .i64 col, .string text, .slice ua un uc] 122)).alloc (.cells #[.int .i64 0, .string ⟨#[]⟩, .slice none 0 0] 51))
 have ho0 := (BoxN.new (w.alloc (.cells #[.int .i64 id, .string nm, .slice va L vc] 51)) #[.int .i64 1, .int .i64 col, .string text, .slice ua un uc] 122).alloc (.cells #[.int .i64 0, .string ⟨#[]⟩, .slice none 0 0] 51)
 rw [World.size_alloc] at ho0
 have HO0 := hid ho0
 have HB0 := hid ((((Below.refl w.heap.size w).alloc (Nat.le_refl _) (.cells #[.int .i64 id, .string nm, .slice va L vc] 51)).alloc (by simp) (.cells #[.int .i64 1, .int .i64 col, .string text, .slice ua un uc] 122)).alloc (by simp; omega) (.cells #[.int .i64 0, .string ⟨#[]⟩, .slice none 0 0] 51))
 have hy0 := BoxN.new ((w.alloc (.cells #[.int .i64 id, .string nm, .slice va L vc] 51)).alloc (.cells #[.int .i64 1, .int .i64 col, .string text, .slice ua un uc] 122)) #[.int .i64 0, .string ⟨#[]⟩, .slice none 0 0] 51
 rw [World.size_alloc, World.size_alloc] at hy0
 have HY0 := hid hy0
 have hz0' : (((w.alloc (.cells #[.int .i64 id, .string nm, .slice va L vc] 51)).alloc (.cells #[.int .i64 1, .int .i64 col, .string text, .slice ua un uc] 122)).alloc (.cells #[.int .i64 0, .string ⟨#[]⟩, .slice none 0 0] 51)).heap.size = w.heap.size + 3 := by simp
 clear hy0 ho0
 go_enter Tryz.func170, Tryz.ntmps170
 go_upto_region 1 with fail
 generalize ((w.alloc (.cells #[.int .i64 id, .string nm, .slice va L vc] 51)).alloc (.cells #[.int .i64 1, .int .i64 col, .string text, .slice ua un uc] 122)).alloc (.cells #[.int .i64 0, .string ⟨#[]⟩, .slice none 0 0] 51) = W0 at *
 have hz0a := Nat.le_of_eq hz0'
 have hz0b := Nat.le_of_eq hz0'.symm
 clear hz0'
 have HG := hid (fun W (hW : Below W0.heap.size W0 W) => (⟨(HX0.out.below hW HX0.out.lt).cell 0 rfl, (HX0.out.below hW HX0.out.lt).cell 1 rfl, (HX0.out.below hW HX0.out.lt).cell 2 rfl, (HO0.out.below hW HO0.out.lt).cell 0 rfl, (HO0.out.below hW HO0.out.lt).cell 1 rfl, (HO0.out.below hW HO0.out.lt).cell 2 rfl, (HO0.out.below hW HO0.out.lt).cell 3 rfl⟩ :
  W.cell? ⟨w.heap.size, 0, none⟩ = some (.int .i64 id) ∧ W.cell? ⟨w.heap.size, 1, none⟩ = some (.string nm) ∧ W.cell? ⟨w.heap.size, 2, none⟩ = some (.slice va L vc) ∧ W.cell? ⟨w.heap.size + 1, 0, none⟩ = some (.int .i64 1) ∧ W.cell? ⟨w.heap.size + 1, 1, none⟩ = some (.int .i64 col) ∧ W.cell? ⟨w.heap.size + 1, 2, none⟩ = some (.string text) ∧ W.cell? ⟨w.heap.size + 1, 3, none⟩ = some (.slice ua un uc)))
 have HDR : Hid (Below W0.heap.size W0 W0.drew) := hid (Below.refl W0.heap.size W0).drew
 have hfd := field_does
 go_region_held3 (fun w' => w'.cell? ⟨w.heap.size, 0, none⟩ = some (.int .i64 id) ∧ w'.cell? ⟨w.heap.size, 1, none⟩ = some (.string nm) ∧ w'.cell? ⟨w.heap.size, 2, none⟩ = some (.slice va L vc) ∧ w'.cell? ⟨w.heap.size + 1, 0, none⟩ = some (.int .i64 1) ∧ w'.cell? ⟨w.heap.size + 1, 1, none⟩ = some (.int .i64 col) ∧ w'.cell? ⟨w.heap.size + 1, 2, none⟩ = some (.string text) ∧ w'.cell? ⟨w.heap.size + 1, 3, none⟩ = some (.slice ua un uc))
  (first | exact HG.out _ (Below.refl _ _) | exact HG.out _ HDR.out | exact HG.out _ HC7.out | exact HG.out _ HC5.out | ((repeat rw [World.cell?_setCell_other _ _ _ _ (by intro e; injection e with e; omega)]); exact HG.out _ HC7.out) | go_keep)
  (first
   | (go_at_call 220; go_must ((with_reducible refine (expl_actions W0.drew).mono ?_); rintro e w5 ⟨b5, rfl, hbb5, hm5, hb5⟩; have HC5 : Hid (Below W0.heap.size W0 w5) := hid (HDR.out.trans (hb5.mono HDR.out.size)); have hlk : (Instr.lookup 238 (.map (some b5)) (.int .i64 1) false).run Tryz.prog w5 = .ok (.agg #[.bool true, .int .i64 1024, .int .i64 0, .func (.func 246) #[] #[]]) w5 := known_look false Tryz.underlying238 Tryz.underlying3 hm5 (i := 0) rfl; clear hb5 hm5))
   | (go_at_call 246; go_must ((with_reducible refine (HF.out w5 (HB0.out.trans (HC5.out.mono (by omega)))).mono ?_); rintro e w7 ⟨y, rfl, hco7, hb7⟩; have HC7 : Hid (Below W0.heap.size W0 w7) := hid (HC5.out.trans (hb7.mono HC5.out.size)); have HCO7 := hid hco7; have hzw7 := HC5.out.size; have hyy := HY0.out.below HC7.out HY0.out.lt; have y0 := hyy.cell 0 rfl; have y1 := hyy.cell 1 rfl; have y2 := hyy.cell 2 rfl; have f0 := hyy.frozen 0; have f1 := hyy.frozen 1; have f2 := hyy.frozen 2; obtain ⟨L7, hL7⟩ := hco7.owns; obtain ⟨ya, yc, rfl⟩ := own_slice hL7; clear hb7 hco7 hyy hL7)))
 all_goals
  clear HG
  go_wp2
  refine bodyPost_ret (v := .agg #[.int .i64 id, .string nm, .slice ya ys.length yc]) (by simp [results, Tryz.results170, go_sem, y0, y1, y2]) rfl ⟨_, rfl, ?_, by have := HB0.out.trans (HC7.out.mono (by omega)); repeat' (first | (with_reducible exact Below.refl _ _) | (with_reducible assumption) | (with_reducible refine below_drewN ?_) | (with_reducible refine Below.alloc ?_ ?_ _) | (with_reducible refine Below.drew ?_) | (with_reducible refine Below.setCell ?_ ?_ _) | (with_reducible refine Below.trans ?_ (Below.mono (by with_reducible assumption) ?_)) | go_size)⟩
  exact (((HCO7.out.setCell (p := ⟨w.heap.size + 2, 0, none⟩) (by show w.heap.size + 2 < w5.heap.size; omega) _).setCell (p := ⟨w.heap.size + 2, 1, none⟩) (by show w.heap.size + 2 < w5.heap.size; omega) _).setCell (p := ⟨w.heap.size + 2, 2, none⟩) (by show w.heap.size + 2 < w5.heap.size; omega) _).lower (by omega)
set_option maxRecDepth 100000 in
set_option maxHeartbeats 4000000 in
theorem expl_does2 (o : Po) (hk : o.kind = 2) (id : Int) (nm : ByteArray) (v u : Value) (xs : List Co) (B : Nat) (w : World) (hv : RdCo w (· < B) v xs) (hu : RdOp w B u o) (hB : B ≤ w.heap.size) (hx : Few xs) (hl : xs.length ≤ 64) (hcan : canL xs.length o = true) :
  Calls Tryz.prog 170 #[.agg #[.int .i64 id, .string nm, v], o.val u] w (NewT w id nm (doL xs o)) := by
 have hkeep := fun W (hW : Below w.heap.size w W) => (hv.keep fun p (hp : p.block < B) => hW.cell (p := p) (by omega) : RdCo W (· < B) v xs)
 have hu' : ∃ ua un uc, u = .slice ua un uc := by
  obtain ⟨a, c, e, -⟩ := hu
  exact ⟨_, _, _, e⟩
 have hcol : 0 ≤ o.col ∧ o.col < xs.length := can_col (by omega) hcan
 have HF := hid (fun W (hW : Below w.heap.size w W) => expl_keep o (by omega) id nm v u xs (rowsC xs) B W (hkeep W hW) (Nat.le_trans hB hW.size) hcol (by omega) hx.cells rfl (by have := hx.rows; omega) hu')
 obtain ⟨va, vc, rfl⟩ : ∃ a c, v = .slice a xs.length c := by
  obtain ⟨cv, ⟨a, c, e, -⟩, -⟩ := hv
  exact ⟨a, c, e⟩
 obtain ⟨ua, un, uc, rfl⟩ := hu'
 clear hv hu hkeep hx hcan
 obtain ⟨kind, col, text, cols⟩ := o
 simp only [Po.val] at *
 subst hk
 generalize hys : doL xs _ = ys at *
 clear hys
 generalize xs.length = L at *
 have HX0 := hid (((BoxN.new w #[.int .i64 id, .string nm, .slice va L vc] 51).alloc (.cells #[.int .i64 2, .int .i64 col, .string text, .slice ua un uc] 122)).alloc (.cells #[.int .i64 0, .string ⟨#[]⟩, .slice none 0 0] 51))
 have ho0 := (BoxN.new (w.alloc (.cells #[.int .i64 id, .string nm, .slice va L vc] 51)) #[.int .i64 2, .int .i64 col, .string text, .slice ua un uc] 122).alloc (.cells #[.int .i64 0, .string ⟨#[]⟩, .slice none 0 0] 51)
 rw [World.size_alloc] at ho0
 have HO0 := hid ho0
 have HB0 := hid ((((Below.refl w.heap.size w).alloc (Nat.le_refl _) (.cells #[.int .i64 id, .string nm, .slice va L vc] 51)).alloc (by simp) (.cells #[.int .i64 2, .int .i64 col, .string text, .slice ua un uc] 122)).alloc (by simp; omega) (.cells #[.int .i64 0, .string ⟨#[]⟩, .slice none 0 0] 51))
 have hy0 := BoxN.new ((w.alloc (.cells #[.int .i64 id, .string nm, .slice va L vc] 51)).alloc (.cells #[.int .i64 2, .int .i64 col, .string text, .slice ua un uc] 122)) #[.int .i64 0, .string ⟨#[]⟩, .slice none 0 0] 51
 rw [World.size_alloc, World.size_alloc] at hy0
 have HY0 := hid hy0
 have hz0' : (((w.alloc (.cells #[.int .i64 id, .string nm, .slice va L vc] 51)).alloc (.cells #[.int .i64 2, .int .i64 col, .string text, .slice ua un uc] 122)).alloc (.cells #[.int .i64 0, .string ⟨#[]⟩, .slice none 0 0] 51)).heap.size = w.heap.size + 3 := by simp
 clear hy0 ho0
 go_enter Tryz.func170, Tryz.ntmps170
 go_upto_region 1 with fail
 generalize ((w.alloc (.cells #[.int .i64 id, .string nm, .slice va L vc] 51)).alloc (.cells #[.int .i64 2, .int .i64 col, .string text, .slice ua un uc] 122)).alloc (.cells #[.int .i64 0, .string ⟨#[]⟩, .slice none 0 0] 51) = W0 at *
 have hz0a := Nat.le_of_eq hz0'
 have hz0b := Nat.le_of_eq hz0'.symm
 clear hz0'
 have HG := hid (fun W (hW : Below W0.heap.size W0 W) => (⟨(HX0.out.below hW HX0.out.lt).cell 0 rfl, (HX0.out.below hW HX0.out.lt).cell 1 rfl, (HX0.out.below hW HX0.out.lt).cell 2 rfl, (HO0.out.below hW HO0.out.lt).cell 0 rfl, (HO0.out.below hW HO0.out.lt).cell 1 rfl, (HO0.out.below hW HO0.out.lt).cell 2 rfl, (HO0.out.below hW HO0.out.lt).cell 3 rfl⟩ :
  W.cell? ⟨w.heap.size, 0, none⟩ = some (.int .i64 id) ∧ W.cell? ⟨w.heap.size, 1, none⟩ = some (.string nm) ∧ W.cell? ⟨w.heap.size, 2, none⟩ = some (.slice va L vc) ∧ W.cell? ⟨w.heap.size + 1, 0, none⟩ = some (.int .i64 2) ∧ W.cell? ⟨w.heap.size + 1, 1, none⟩ = some (.int .i64 col) ∧ W.cell? ⟨w.heap.size + 1, 2, none⟩ = some (.string text) ∧ W.cell? ⟨w.heap.size + 1, 3, none⟩ = some (.slice ua un uc)))
 have HDR : Hid (Below W0.heap.size W0 W0.drew) := hid (Below.refl W0.heap.size W0).drew
 have hfd := field_does
 go_region_held3 (fun w' => w'.cell? ⟨w.heap.size, 0, none⟩ = some (.int .i64 id) ∧ w'.cell? ⟨w.heap.size, 1, none⟩ = some (.string nm) ∧ w'.cell? ⟨w.heap.size, 2, none⟩ = some (.slice va L vc) ∧ w'.cell? ⟨w.heap.size + 1, 0, none⟩ = some (.int .i64 2) ∧ w'.cell? ⟨w.heap.size + 1, 1, none⟩ = some (.int .i64 col) ∧ w'.cell? ⟨w.heap.size + 1, 2, none⟩ = some (.string text) ∧ w'.cell? ⟨w.heap.size + 1, 3, none⟩ = some (.slice ua un uc))
  (first | exact HG.out _ (Below.refl _ _) | exact HG.out _ HDR.out | exact HG.out _ HC7.out | exact HG.out _ HC5.out | ((repeat rw [World.cell?_setCell_other _ _ _ _ (by intro e; injection e with e; omega)]); exact HG.out _ HC7.out) | go_keep)
  (first
   | (go_at_call 220; go_must ((with_reducible refine (expl_actions W0.drew).mono ?_); rintro e w5 ⟨b5, rfl, hbb5, hm5, hb5⟩; have HC5 : Hid (Below W0.heap.size W0 w5) := hid (HDR.out.trans (hb5.mono HDR.out.size)); have hlk : (Instr.lookup 238 (.map (some b5)) (.int .i64 2) false).run Tryz.prog w5 = .ok (.agg #[.bool true, .int .i64 0, .int .i64 0, .func (.func 246) #[] #[]]) w5 := known_look false Tryz.underlying238 Tryz.underlying3 hm5 (i := 1) rfl; clear hb5 hm5))
   | (go_at_call 246; go_must ((with_reducible refine (HF.out w5 (HB0.out.trans (HC5.out.mono (by omega)))).mono ?_); rintro e w7 ⟨y, rfl, hco7, hb7⟩; have HC7 : Hid (Below W0.heap.size W0 w7) := hid (HC5.out.trans (hb7.mono HC5.out.size)); have HCO7 := hid hco7; have hzw7 := HC5.out.size; have hyy := HY0.out.below HC7.out HY0.out.lt; have y0 := hyy.cell 0 rfl; have y1 := hyy.cell 1 rfl; have y2 := hyy.cell 2 rfl; have f0 := hyy.frozen 0; have f1 := hyy.frozen 1; have f2 := hyy.frozen 2; obtain ⟨L7, hL7⟩ := hco7.owns; obtain ⟨ya, yc, rfl⟩ := own_slice hL7; clear hb7 hco7 hyy hL7)))
 all_goals
  clear HG
  go_wp2
  refine bodyPost_ret (v := .agg #[.int .i64 id, .string nm, .slice ya ys.length yc]) (by simp [results, Tryz.results170, go_sem, y0, y1, y2]) rfl ⟨_, rfl, ?_, by have := HB0.out.trans (HC7.out.mono (by omega)); repeat' (first | (with_reducible exact Below.refl _ _) | (with_reducible assumption) | (with_reducible refine below_drewN ?_) | (with_reducible refine Below.alloc ?_ ?_ _) | (with_reducible refine Below.drew ?_) | (with_reducible refine Below.setCell ?_ ?_ _) | (with_reducible refine Below.trans ?_ (Below.mono (by with_reducible assumption) ?_)) | go_size)⟩
  exact (((HCO7.out.setCell (p := ⟨w.heap.size + 2, 0, none⟩) (by show w.heap.size + 2 < w5.heap.size; omega) _).setCell (p := ⟨w.heap.size + 2, 1, none⟩) (by show w.heap.size + 2 < w5.heap.size; omega) _).setCell (p := ⟨w.heap.size + 2, 2, none⟩) (by show w.heap.size + 2 < w5.heap.size; omega) _).lower (by omega)
set_option maxRecDepth 100000 in
set_option maxHeartbeats 4000000 in
theorem expl_does3 (o : Po) (hk : o.kind = 3) (id : Int) (nm : ByteArray) (v u : Value) (xs : List Co) (B : Nat) (w : World) (hv : RdCo w (· < B) v xs) (hu : RdOp w B u o) (hB : B ≤ w.heap.size) (hx : Few xs) (hl : xs.length ≤ 64) (hcan : canL xs.length o = true) :
  Calls Tryz.prog 170 #[.agg #[.int .i64 id, .string nm, v], o.val u] w (NewT w id nm (doL xs o)) := by
 have hkeep := fun W (hW : Below w.heap.size w W) => (hv.keep fun p (hp : p.block < B) => hW.cell (p := p) (by omega) : RdCo W (· < B) v xs)
 have hu' : ∃ ua un uc, u = .slice ua un uc := by
  obtain ⟨a, c, e, -⟩ := hu
  exact ⟨_, _, _, e⟩
 obtain ⟨hp1, hp2⟩ := can_ks hcan hk
 have HF := hid (fun W (hW : Below w.heap.size w W) => expl_columns o hk id nm v u xs B W (hkeep W hW) (hu.below hW hB) (Nat.le_trans hB hW.size) hp1 hp2 (fun x hxx => by rw [hx.cells x hxx]; have := hx.rows; omega))
 clear hp1 hp2
 obtain ⟨va, vc, rfl⟩ : ∃ a c, v = .slice a xs.length c := by
  obtain ⟨cv, ⟨a, c, e, -⟩, -⟩ := hv
  exact ⟨a, c, e⟩
 obtain ⟨ua, un, uc, rfl⟩ := hu'
 clear hv hu hkeep hx hcan
 obtain ⟨kind, col, text, cols⟩ := o
 simp only [Po.val] at *
 subst hk
 generalize hys : doL xs _ = ys at *
 clear hys
 generalize xs.length = L at *
 have HX0 := hid (((BoxN.new w #[.int .i64 id, .string nm, .slice va L vc] 51).alloc (.cells #[.int .i64 3, .int .i64 col, .string text, .slice ua un uc] 122)).alloc (.cells #[.int .i64 0, .string ⟨#[]⟩, .slice none 0 0] 51))
 have ho0 := (BoxN.new (w.alloc (.cells #[.int .i64 id, .string nm, .slice va L vc] 51)) #[.int .i64 3, .int .i64 col, .string text, .slice ua un uc] 122).alloc (.cells #[.int .i64 0, .string ⟨#[]⟩, .slice none 0 0] 51)
 rw [World.size_alloc] at ho0
 have HO0 := hid ho0
 have HB0 := hid ((((Below.refl w.heap.size w).alloc (Nat.le_refl _) (.cells #[.int .i64 id, .string nm, .slice va L vc] 51)).alloc (by simp) (.cells #[.int .i64 3, .int .i64 col, .string text, .slice ua un uc] 122)).alloc (by simp; omega) (.cells #[.int .i64 0, .string ⟨#[]⟩, .slice none 0 0] 51))
 have hy0 := BoxN.new ((w.alloc (.cells #[.int .i64 id, .string nm, .slice va L vc] 51)).alloc (.cells #[.int .i64 3, .int .i64 col, .string text, .slice ua un uc] 122)) #[.int .i64 0, .string ⟨#[]⟩, .slice none 0 0] 51
 rw [World.size_alloc, World.size_alloc] at hy0
 have HY0 := hid hy0
 have hz0' : (((w.alloc (.cells #[.int .i64 id, .string nm, .slice va L vc] 51)).alloc (.cells #[.int .i64 3, .int .i64 col, .string text, .slice ua un uc] 122)).alloc (.cells #[.int .i64 0, .string ⟨#[]⟩, .slice none 0 0] 51)).heap.size = w.heap.size + 3 := by simp
 clear hy0 ho0
 go_enter Tryz.func170, Tryz.ntmps170
 go_upto_region 1 with fail
 generalize ((w.alloc (.cells #[.int .i64 id, .string nm, .slice va L vc] 51)).alloc (.cells #[.int .i64 3, .int .i64 col, .string text, .slice ua un uc] 122)).alloc (.cells #[.int .i64 0, .string ⟨#[]⟩, .slice none 0 0] 51) = W0 at *
 have hz0a := Nat.le_of_eq hz0'
 have hz0b := Nat.le_of_eq hz0'.symm
 clear hz0'
 have HG := hid (fun W (hW : Below W0.heap.size W0 W) => (⟨(HX0.out.below hW HX0.out.lt).cell 0 rfl, (HX0.out.below hW HX0.out.lt).cell 1 rfl, (HX0.out.below hW HX0.out.lt).cell 2 rfl, (HO0.out.below hW HO0.out.lt).cell 0 rfl, (HO0.out.below hW HO0.out.lt).cell 1 rfl, (HO0.out.below hW HO0.out.lt).cell 2 rfl, (HO0.out.below hW HO0.out.lt).cell 3 rfl⟩ :
  W.cell? ⟨w.heap.size, 0, none⟩ = some (.int .i64 id) ∧ W.cell? ⟨w.heap.size, 1, none⟩ = some (.string nm) ∧ W.cell? ⟨w.heap.size, 2, none⟩ = some (.slice va L vc) ∧ W.cell? ⟨w.heap.size + 1, 0, none⟩ = some (.int .i64 3) ∧ W.cell? ⟨w.heap.size + 1, 1, none⟩ = some (.int .i64 col) ∧ W.cell? ⟨w.heap.size + 1, 2, none⟩ = some (.string text) ∧ W.cell? ⟨w.heap.size + 1, 3, none⟩ = some (.slice ua un uc)))
 have HDR : Hid (Below W0.heap.size W0 W0.drew) := hid (Below.refl W0.heap.size W0).drew
 have hfd := field_does
 go_region_held3 (fun w' => w'.cell? ⟨w.heap.size, 0, none⟩ = some (.int .i64 id) ∧ w'.cell? ⟨w.heap.size, 1, none⟩ = some (.string nm) ∧ w'.cell? ⟨w.heap.size, 2, none⟩ = some (.slice va L vc) ∧ w'.cell? ⟨w.heap.size + 1, 0, none⟩ = some (.int .i64 3) ∧ w'.cell? ⟨w.heap.size + 1, 1, none⟩ = some (.int .i64 col) ∧ w'.cell? ⟨w.heap.size + 1, 2, none⟩ = some (.string text) ∧ w'.cell? ⟨w.heap.size + 1, 3, none⟩ = some (.slice ua un uc))
  (first | exact HG.out _ (Below.refl _ _) | exact HG.out _ HDR.out | exact HG.out _ HC7.out | exact HG.out _ HC5.out | ((repeat rw [World.cell?_setCell_other _ _ _ _ (by intro e; injection e with e; omega)]); exact HG.out _ HC7.out) | go_keep)
  (first
   | (go_at_call 220; go_must ((with_reducible refine (expl_actions W0.drew).mono ?_); rintro e w5 ⟨b5, rfl, hbb5, hm5, hb5⟩; have HC5 : Hid (Below W0.heap.size W0 w5) := hid (HDR.out.trans (hb5.mono HDR.out.size)); have hlk : (Instr.lookup 238 (.map (some b5)) (.int .i64 3) false).run Tryz.prog w5 = .ok (.agg #[.bool false, .int .i64 0, .int .i64 64, .func (.func 247) #[] #[]]) w5 := known_look false Tryz.underlying238 Tryz.underlying3 hm5 (i := 2) rfl; clear hb5 hm5))
   | (go_at_call 247; go_must ((with_reducible refine (HF.out w5 (HB0.out.trans (HC5.out.mono (by omega)))).mono ?_); rintro e w7 ⟨y, rfl, hco7, hb7⟩; have HC7 : Hid (Below W0.heap.size W0 w7) := hid (HC5.out.trans (hb7.mono HC5.out.size)); have HCO7 := hid hco7; have hzw7 := HC5.out.size; have hyy := HY0.out.below HC7.out HY0.out.lt; have y0 := hyy.cell 0 rfl; have y1 := hyy.cell 1 rfl; have y2 := hyy.cell 2 rfl; have f0 := hyy.frozen 0; have f1 := hyy.frozen 1; have f2 := hyy.frozen 2; obtain ⟨L7, hL7⟩ := hco7.owns; obtain ⟨ya, yc, rfl⟩ := own_slice hL7; clear hb7 hco7 hyy hL7)))
 all_goals
  clear HG
  go_wp2
  refine bodyPost_ret (v := .agg #[.int .i64 id, .string nm, .slice ya ys.length yc]) (by simp [results, Tryz.results170, go_sem, y0, y1, y2]) rfl ⟨_, rfl, ?_, by have := HB0.out.trans (HC7.out.mono (by omega)); repeat' (first | (with_reducible exact Below.refl _ _) | (with_reducible assumption) | (with_reducible refine below_drewN ?_) | (with_reducible refine Below.alloc ?_ ?_ _) | (with_reducible refine Below.drew ?_) | (with_reducible refine Below.setCell ?_ ?_ _) | (with_reducible refine Below.trans ?_ (Below.mono (by with_reducible assumption) ?_)) | go_size)⟩
  exact (((HCO7.out.setCell (p := ⟨w.heap.size + 2, 0, none⟩) (by show w.heap.size + 2 < w5.heap.size; omega) _).setCell (p := ⟨w.heap.size + 2, 1, none⟩) (by show w.heap.size + 2 < w5.heap.size; omega) _).setCell (p := ⟨w.heap.size + 2, 2, none⟩) (by show w.heap.size + 2 < w5.heap.size; omega) _).lower (by omega)
set_option maxRecDepth 100000 in
set_option maxHeartbeats 4000000 in
theorem expl_does4 (o : Po) (hk : o.kind = 4) (id : Int) (nm : ByteArray) (v u : Value) (xs : List Co) (B : Nat) (w : World) (hv : RdCo w (· < B) v xs) (hu : RdOp w B u o) (hB : B ≤ w.heap.size) (hx : Few xs) (hl : xs.length ≤ 64) (hcan : canL xs.length o = true) :
  Calls Tryz.prog 170 #[.agg #[.int .i64 id, .string nm, v], o.val u] w (NewT w id nm (doL xs o)) := by
 have hkeep := fun W (hW : Below w.heap.size w W) => (hv.keep fun p (hp : p.block < B) => hW.cell (p := p) (by omega) : RdCo W (· < B) v xs)
 have hu' : ∃ ua un uc, u = .slice ua un uc := by
  obtain ⟨a, c, e, -⟩ := hu
  exact ⟨_, _, _, e⟩
 have HF := hid (fun W (hW : Below w.heap.size w W) => expl_dist o hk id nm v u xs (rowsC xs) B W (hkeep W hW) (Nat.le_trans hB hW.size) (by omega) hx.cells rfl (by have := hx.rows; omega) hu')
 obtain ⟨va, vc, rfl⟩ : ∃ a c, v = .slice a xs.length c := by
  obtain ⟨cv, ⟨a, c, e, -⟩, -⟩ := hv
  exact ⟨a, c, e⟩
 obtain ⟨ua, un, uc, rfl⟩ := hu'
 clear hv hu hkeep hx hcan
 obtain ⟨kind, col, text, cols⟩ := o
 simp only [Po.val] at *
 subst hk
 generalize hys : doL xs _ = ys at *
 clear hys
 generalize xs.length = L at *
 have HX0 := hid (((BoxN.new w #[.int .i64 id, .string nm, .slice va L vc] 51).alloc (.cells #[.int .i64 4, .int .i64 col, .string text, .slice ua un uc] 122)).alloc (.cells #[.int .i64 0, .string ⟨#[]⟩, .slice none 0 0] 51))
 have ho0 := (BoxN.new (w.alloc (.cells #[.int .i64 id, .string nm, .slice va L vc] 51)) #[.int .i64 4, .int .i64 col, .string text, .slice ua un uc] 122).alloc (.cells #[.int .i64 0, .string ⟨#[]⟩, .slice none 0 0] 51)
 rw [World.size_alloc] at ho0
 have HO0 := hid ho0
 have HB0 := hid ((((Below.refl w.heap.size w).alloc (Nat.le_refl _) (.cells #[.int .i64 id, .string nm, .slice va L vc] 51)).alloc (by simp) (.cells #[.int .i64 4, .int .i64 col, .string text, .slice ua un uc] 122)).alloc (by simp; omega) (.cells #[.int .i64 0, .string ⟨#[]⟩, .slice none 0 0] 51))
 have hy0 := BoxN.new ((w.alloc (.cells #[.int .i64 id, .string nm, .slice va L vc] 51)).alloc (.cells #[.int .i64 4, .int .i64 col, .string text, .slice ua un uc] 122)) #[.int .i64 0, .string ⟨#[]⟩, .slice none 0 0] 51
 rw [World.size_alloc, World.size_alloc] at hy0
 have HY0 := hid hy0
 have hz0' : (((w.alloc (.cells #[.int .i64 id, .string nm, .slice va L vc] 51)).alloc (.cells #[.int .i64 4, .int .i64 col, .string text, .slice ua un uc] 122)).alloc (.cells #[.int .i64 0, .string ⟨#[]⟩, .slice none 0 0] 51)).heap.size = w.heap.size + 3 := by simp
 clear hy0 ho0
 go_enter Tryz.func170, Tryz.ntmps170
 go_upto_region 1 with fail
 generalize ((w.alloc (.cells #[.int .i64 id, .string nm, .slice va L vc] 51)).alloc (.cells #[.int .i64 4, .int .i64 col, .string text, .slice ua un uc] 122)).alloc (.cells #[.int .i64 0, .string ⟨#[]⟩, .slice none 0 0] 51) = W0 at *
 have hz0a := Nat.le_of_eq hz0'
 have hz0b := Nat.le_of_eq hz0'.symm
 clear hz0'
 have HG := hid (fun W (hW : Below W0.heap.size W0 W) => (⟨(HX0.out.below hW HX0.out.lt).cell 0 rfl, (HX0.out.below hW HX0.out.lt).cell 1 rfl, (HX0.out.below hW HX0.out.lt).cell 2 rfl, (HO0.out.below hW HO0.out.lt).cell 0 rfl, (HO0.out.below hW HO0.out.lt).cell 1 rfl, (HO0.out.below hW HO0.out.lt).cell 2 rfl, (HO0.out.below hW HO0.out.lt).cell 3 rfl⟩ :
  W.cell? ⟨w.heap.size, 0, none⟩ = some (.int .i64 id) ∧ W.cell? ⟨w.heap.size, 1, none⟩ = some (.string nm) ∧ W.cell? ⟨w.heap.size, 2, none⟩ = some (.slice va L vc) ∧ W.cell? ⟨w.heap.size + 1, 0, none⟩ = some (.int .i64 4) ∧ W.cell? ⟨w.heap.size + 1, 1, none⟩ = some (.int .i64 col) ∧ W.cell? ⟨w.heap.size + 1, 2, none⟩ = some (.string text) ∧ W.cell? ⟨w.heap.size + 1, 3, none⟩ = some (.slice ua un uc)))
 have HDR : Hid (Below W0.heap.size W0 W0.drew) := hid (Below.refl W0.heap.size W0).drew
 have hfd := field_does
 go_region_held3 (fun w' => w'.cell? ⟨w.heap.size, 0, none⟩ = some (.int .i64 id) ∧ w'.cell? ⟨w.heap.size, 1, none⟩ = some (.string nm) ∧ w'.cell? ⟨w.heap.size, 2, none⟩ = some (.slice va L vc) ∧ w'.cell? ⟨w.heap.size + 1, 0, none⟩ = some (.int .i64 4) ∧ w'.cell? ⟨w.heap.size + 1, 1, none⟩ = some (.int .i64 col) ∧ w'.cell? ⟨w.heap.size + 1, 2, none⟩ = some (.string text) ∧ w'.cell? ⟨w.heap.size + 1, 3, none⟩ = some (.slice ua un uc))
  (first | exact HG.out _ (Below.refl _ _) | exact HG.out _ HDR.out | exact HG.out _ HC7.out | exact HG.out _ HC5.out | ((repeat rw [World.cell?_setCell_other _ _ _ _ (by intro e; injection e with e; omega)]); exact HG.out _ HC7.out) | go_keep)
  (first
   | (go_at_call 220; go_must ((with_reducible refine (expl_actions W0.drew).mono ?_); rintro e w5 ⟨b5, rfl, hbb5, hm5, hb5⟩; have HC5 : Hid (Below W0.heap.size W0 w5) := hid (HDR.out.trans (hb5.mono HDR.out.size)); have hlk : (Instr.lookup 238 (.map (some b5)) (.int .i64 4) false).run Tryz.prog w5 = .ok (.agg #[.bool false, .int .i64 0, .int .i64 0, .func (.func 248) #[] #[]]) w5 := known_look false Tryz.underlying238 Tryz.underlying3 hm5 (i := 3) rfl; clear hb5 hm5))
   | (go_at_call 248; go_must ((with_reducible refine (HF.out w5 (HB0.out.trans (HC5.out.mono (by omega)))).mono ?_); rintro e w7 ⟨y, rfl, hco7, hb7⟩; have HC7 : Hid (Below W0.heap.size W0 w7) := hid (HC5.out.trans (hb7.mono HC5.out.size)); have HCO7 := hid hco7; have hzw7 := HC5.out.size; have hyy := HY0.out.below HC7.out HY0.out.lt; have y0 := hyy.cell 0 rfl; have y1 := hyy.cell 1 rfl; have y2 := hyy.cell 2 rfl; have f0 := hyy.frozen 0; have f1 := hyy.frozen 1; have f2 := hyy.frozen 2; obtain ⟨L7, hL7⟩ := hco7.owns; obtain ⟨ya, yc, rfl⟩ := own_slice hL7; clear hb7 hco7 hyy hL7)))
 all_goals
  clear HG
  go_wp2
  refine bodyPost_ret (v := .agg #[.int .i64 id, .string nm, .slice ya ys.length yc]) (by simp [results, Tryz.results170, go_sem, y0, y1, y2]) rfl ⟨_, rfl, ?_, by have := HB0.out.trans (HC7.out.mono (by omega)); repeat' (first | (with_reducible exact Below.refl _ _) | (with_reducible assumption) | (with_reducible refine below_drewN ?_) | (with_reducible refine Below.alloc ?_ ?_ _) | (with_reducible refine Below.drew ?_) | (with_reducible refine Below.setCell ?_ ?_ _) | (with_reducible refine Below.trans ?_ (Below.mono (by with_reducible assumption) ?_)) | go_size)⟩
  exact (((HCO7.out.setCell (p := ⟨w.heap.size + 2, 0, none⟩) (by show w.heap.size + 2 < w5.heap.size; omega) _).setCell (p := ⟨w.heap.size + 2, 1, none⟩) (by show w.heap.size + 2 < w5.heap.size; omega) _).setCell (p := ⟨w.heap.size + 2, 2, none⟩) (by show w.heap.size + 2 < w5.heap.size; omega) _).lower (by omega)
set_option maxRecDepth 100000 in
set_option maxHeartbeats 4000000 in
theorem expl_does5 (o : Po) (hk : o.kind = 5) (id : Int) (nm : ByteArray) (v u : Value) (xs : List Co) (B : Nat) (w : World) (hv : RdCo w (· < B) v xs) (hu : RdOp w B u o) (hB : B ≤ w.heap.size) (hx : Few xs) (hl : xs.length ≤ 64) (hcan : canL xs.length o = true) :
  Calls Tryz.prog 170 #[.agg #[.int .i64 id, .string nm, v], o.val u] w (NewT w id nm (doL xs o)) := by
 have hkeep := fun W (hW : Below w.heap.size w W) => (hv.keep fun p (hp : p.block < B) => hW.cell (p := p) (by omega) : RdCo W (· < B) v xs)
 have hu' : ∃ ua un uc, u = .slice ua un uc := by
  obtain ⟨a, c, e, -⟩ := hu
  exact ⟨_, _, _, e⟩
 have hcol : 0 ≤ o.col ∧ o.col < xs.length := can_col (by omega) hcan
 have HF := hid (fun W (hW : Below w.heap.size w W) => expl_ascending o hk id nm v u xs (rowsC xs) B W (hkeep W hW) (Nat.le_trans hB hW.size) hcol (by omega) hx.cells rfl hx.rows hu')
 obtain ⟨va, vc, rfl⟩ : ∃ a c, v = .slice a xs.length c := by
  obtain ⟨cv, ⟨a, c, e, -⟩, -⟩ := hv
  exact ⟨a, c, e⟩
 obtain ⟨ua, un, uc, rfl⟩ := hu'
 clear hv hu hkeep hx hcan
 obtain ⟨kind, col, text, cols⟩ := o
 simp only [Po.val] at *
 subst hk
 generalize hys : doL xs _ = ys at *
 clear hys
 generalize xs.length = L at *
 have HX0 := hid (((BoxN.new w #[.int .i64 id, .string nm, .slice va L vc] 51).alloc (.cells #[.int .i64 5, .int .i64 col, .string text, .slice ua un uc] 122)).alloc (.cells #[.int .i64 0, .string ⟨#[]⟩, .slice none 0 0] 51))
 have ho0 := (BoxN.new (w.alloc (.cells #[.int .i64 id, .string nm, .slice va L vc] 51)) #[.int .i64 5, .int .i64 col, .string text, .slice ua un uc] 122).alloc (.cells #[.int .i64 0, .string ⟨#[]⟩, .slice none 0 0] 51)
 rw [World.size_alloc] at ho0
 have HO0 := hid ho0
 have HB0 := hid ((((Below.refl w.heap.size w).alloc (Nat.le_refl _) (.cells #[.int .i64 id, .string nm, .slice va L vc] 51)).alloc (by simp) (.cells #[.int .i64 5, .int .i64 col, .string text, .slice ua un uc] 122)).alloc (by simp; omega) (.cells #[.int .i64 0, .string ⟨#[]⟩, .slice none 0 0] 51))
 have hy0 := BoxN.new ((w.alloc (.cells #[.int .i64 id, .string nm, .slice va L vc] 51)).alloc (.cells #[.int .i64 5, .int .i64 col, .string text, .slice ua un uc] 122)) #[.int .i64 0, .string ⟨#[]⟩, .slice none 0 0] 51
 rw [World.size_alloc, World.size_alloc] at hy0
 have HY0 := hid hy0
 have hz0' : (((w.alloc (.cells #[.int .i64 id, .string nm, .slice va L vc] 51)).alloc (.cells #[.int .i64 5, .int .i64 col, .string text, .slice ua un uc] 122)).alloc (.cells #[.int .i64 0, .string ⟨#[]⟩, .slice none 0 0] 51)).heap.size = w.heap.size + 3 := by simp
 clear hy0 ho0
 go_enter Tryz.func170, Tryz.ntmps170
 go_upto_region 1 with fail
 generalize ((w.alloc (.cells #[.int .i64 id, .string nm, .slice va L vc] 51)).alloc (.cells #[.int .i64 5, .int .i64 col, .string text, .slice ua un uc] 122)).alloc (.cells #[.int .i64 0, .string ⟨#[]⟩, .slice none 0 0] 51) = W0 at *
 have hz0a := Nat.le_of_eq hz0'
 have hz0b := Nat.le_of_eq hz0'.symm
 clear hz0'
 have HG := hid (fun W (hW : Below W0.heap.size W0 W) => (⟨(HX0.out.below hW HX0.out.lt).cell 0 rfl, (HX0.out.below hW HX0.out.lt).cell 1 rfl, (HX0.out.below hW HX0.out.lt).cell 2 rfl, (HO0.out.below hW HO0.out.lt).cell 0 rfl, (HO0.out.below hW HO0.out.lt).cell 1 rfl, (HO0.out.below hW HO0.out.lt).cell 2 rfl, (HO0.out.below hW HO0.out.lt).cell 3 rfl⟩ :
  W.cell? ⟨w.heap.size, 0, none⟩ = some (.int .i64 id) ∧ W.cell? ⟨w.heap.size, 1, none⟩ = some (.string nm) ∧ W.cell? ⟨w.heap.size, 2, none⟩ = some (.slice va L vc) ∧ W.cell? ⟨w.heap.size + 1, 0, none⟩ = some (.int .i64 5) ∧ W.cell? ⟨w.heap.size + 1, 1, none⟩ = some (.int .i64 col) ∧ W.cell? ⟨w.heap.size + 1, 2, none⟩ = some (.string text) ∧ W.cell? ⟨w.heap.size + 1, 3, none⟩ = some (.slice ua un uc)))
 have HDR : Hid (Below W0.heap.size W0 W0.drew) := hid (Below.refl W0.heap.size W0).drew
 have hfd := field_does
 go_region_held3 (fun w' => w'.cell? ⟨w.heap.size, 0, none⟩ = some (.int .i64 id) ∧ w'.cell? ⟨w.heap.size, 1, none⟩ = some (.string nm) ∧ w'.cell? ⟨w.heap.size, 2, none⟩ = some (.slice va L vc) ∧ w'.cell? ⟨w.heap.size + 1, 0, none⟩ = some (.int .i64 5) ∧ w'.cell? ⟨w.heap.size + 1, 1, none⟩ = some (.int .i64 col) ∧ w'.cell? ⟨w.heap.size + 1, 2, none⟩ = some (.string text) ∧ w'.cell? ⟨w.heap.size + 1, 3, none⟩ = some (.slice ua un uc))
  (first | exact HG.out _ (Below.refl _ _) | exact HG.out _ HDR.out | exact HG.out _ HC7.out | exact HG.out _ HC5.out | ((repeat rw [World.cell?_setCell_other _ _ _ _ (by intro e; injection e with e; omega)]); exact HG.out _ HC7.out) | go_keep)
  (first
   | (go_at_call 220; go_must ((with_reducible refine (expl_actions W0.drew).mono ?_); rintro e w5 ⟨b5, rfl, hbb5, hm5, hb5⟩; have HC5 : Hid (Below W0.heap.size W0 w5) := hid (HDR.out.trans (hb5.mono HDR.out.size)); have hlk : (Instr.lookup 238 (.map (some b5)) (.int .i64 5) false).run Tryz.prog w5 = .ok (.agg #[.bool true, .int .i64 0, .int .i64 0, .func (.func 251) #[] #[]]) w5 := known_look false Tryz.underlying238 Tryz.underlying3 hm5 (i := 4) rfl; clear hb5 hm5))
   | (go_at_call 251; go_must ((with_reducible refine (HF.out w5 (HB0.out.trans (HC5.out.mono (by omega)))).mono ?_); rintro e w7 ⟨y, rfl, hco7, hb7⟩; have HC7 : Hid (Below W0.heap.size W0 w7) := hid (HC5.out.trans (hb7.mono HC5.out.size)); have HCO7 := hid hco7; have hzw7 := HC5.out.size; have hyy := HY0.out.below HC7.out HY0.out.lt; have y0 := hyy.cell 0 rfl; have y1 := hyy.cell 1 rfl; have y2 := hyy.cell 2 rfl; have f0 := hyy.frozen 0; have f1 := hyy.frozen 1; have f2 := hyy.frozen 2; obtain ⟨L7, hL7⟩ := hco7.owns; obtain ⟨ya, yc, rfl⟩ := own_slice hL7; clear hb7 hco7 hyy hL7)))
 all_goals
  clear HG
  go_wp2
  refine bodyPost_ret (v := .agg #[.int .i64 id, .string nm, .slice ya ys.length yc]) (by simp [results, Tryz.results170, go_sem, y0, y1, y2]) rfl ⟨_, rfl, ?_, by have := HB0.out.trans (HC7.out.mono (by omega)); repeat' (first | (with_reducible exact Below.refl _ _) | (with_reducible assumption) | (with_reducible refine below_drewN ?_) | (with_reducible refine Below.alloc ?_ ?_ _) | (with_reducible refine Below.drew ?_) | (with_reducible refine Below.setCell ?_ ?_ _) | (with_reducible refine Below.trans ?_ (Below.mono (by with_reducible assumption) ?_)) | go_size)⟩
  exact (((HCO7.out.setCell (p := ⟨w.heap.size + 2, 0, none⟩) (by show w.heap.size + 2 < w5.heap.size; omega) _).setCell (p := ⟨w.heap.size + 2, 1, none⟩) (by show w.heap.size + 2 < w5.heap.size; omega) _).setCell (p := ⟨w.heap.size + 2, 2, none⟩) (by show w.heap.size + 2 < w5.heap.size; omega) _).lower (by omega)
theorem expl_does (o : Po) (id : Int) (nm : ByteArray) (v u : Value) (xs : List Co) (B : Nat) (w : World) (hv : RdCo w (· < B) v xs) (hu : RdOp w B u o) (hB : B ≤ w.heap.size) (hx : Few xs) (hl : xs.length ≤ 64) (hcan : canL xs.length o = true) :
    Calls Tryz.prog 170 #[.agg #[.int .i64 id, .string nm, v], o.val u] w (NewT w id nm (doL xs o)) := by
  rcases can_kind hcan with h | h | h | h | h
  · exact expl_does1 o h id nm v u xs B w hv hu hB hx hl hcan
  · exact expl_does2 o h id nm v u xs B w hv hu hB hx hl hcan
  · exact expl_does3 o h id nm v u xs B w hv hu hB hx hl hcan
  · exact expl_does4 o h id nm v u xs B w hv hu hB hx hl hcan
  · exact expl_does5 o h id nm v u xs B w hv hu hB hx hl hcan
end Go.Proofs.YtaajpliifdlokaaGreatDoor
