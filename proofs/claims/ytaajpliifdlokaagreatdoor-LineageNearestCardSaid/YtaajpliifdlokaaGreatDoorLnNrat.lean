/- Contract of explain.keep. Contract of explain.actions$1: distinct rows. Contract of explain.columns. -/
import Derived.Deep.RegionHeld3
import Derived.Test.YtaajpliifdlokaaGreatDoorLnNras
import Derived.Test.YtaajpliifdlokaaGreatDoorLnNraq
import Derived.Deep.RegionLawGrows
import Derived.Test.YtaajpliifdlokaaGreatDoorLnNrar
set_option linter.unusedVariables false
set_option linter.unusedSimpArgs false
namespace Go.Proofs.YtaajpliifdlokaaGreatDoor
open Go.RowKit
theorem stay_keep {xs : List Co} {o : Po} (hk : o.kind = 1 ∨ o.kind = 2) (n : Nat) : stayL (fun i => !keepF xs o i) n = rowsL xs o n := by
  rw [rowsL_F hk]
  unfold stayL
  congr 1
  funext i
  simp
theorem rd_head {w : World} {b n : Nat} {F : List Nat} (h1 : F.length ≤ n) (hn : n ≤ 1048576) (hb : b < w.heap.size) (h : ∀ i, i < F.length → w.cell? ⟨b, i, none⟩ = some (natF F i)) : Rd w w.heap.size (.slice (some ⟨b, 0, none⟩) F.length n) F.length (natF F) :=
  ⟨_, _, rfl, h1, by unfold maxLen; omega, fun _ => ⟨b, 0, rfl, hb, fun i hi => by rw [Nat.zero_add]; exact h i hi⟩⟩
set_option maxRecDepth 100000 in
set_option maxHeartbeats 4000000 in
theorem expl_keep (o : Po) (hk : o.kind = 1 ∨ o.kind = 2) (id : Int) (nm : ByteArray) (v u : Value) (xs : List Co) (n B : Nat) (w : World) (hv : RdCo w (· < B) v xs) (hB : B ≤ w.heap.size) (hcol : 0 ≤ o.col ∧ o.col < xs.length) (hl : xs.length ≤ 1048576) (hc : ∀ x ∈ xs, x.cells.length = n) (hn : rowsC xs = n) (hn4 : n ≤ 1048576) (hu : ∃ ua un uc, u = .slice ua un uc) :
  Calls Tryz.prog 246 #[.agg #[.int .i64 id, .string nm, v], o.val u] w (NewT w id nm (doL xs o)) := by
 have hk3 : o.kind ≠ 3 := by omega
 have hdo : doL xs o = selL xs (rowsL xs o n) := by rw [doL_rows hk3, hn]
 rw [hdo, ← stay_keep hk n]
 have hkeep := fun W (hW : Below w.heap.size w W) => (hv.keep fun p (hp : p.block < B) => hW.cell (p := p) (by omega) : RdCo W (· < B) v xs)
 have hRW := fun W (hW : Below w.heap.size w W) => expl_rows id nm v xs B W (hkeep W hW) (Nat.le_trans hB hW.size) (by omega)
 rw [hn] at hRW
 have HRW := hid hRW
 have HDEL := hid (fun b tb ob W (hW : Below w.heap.size w W) (hN : Nums W b (List.range n)) (hb : w.heap.size ≤ b) (htb : tb ≠ b) (hob : ob ≠ b) (ht : BoxN W tb 51 #[.int .i64 id, .string nm, v]) (ho : BoxN W ob 122 #[.int .i64 o.kind, .int .i64 o.col, .string o.text, u]) =>
  del_keep n b tb ob (fun i => !keepF xs o i) W hN hn4 (fun q hq W' hW' => by
   have h := expl_keep1 o hk id nm v u xs q tb ob B W' ((hkeep W hW).keep fun p (hp : p.block < B) => hW'.cell (p := p) (by have := hW.size; omega) (by omega)) (by have := hW.size; have := hW'.size; omega) hcol (fun x hx => by rw [hc x hx]; exact hq) ((hW'.block tb ht.lt htb).trans ht) ((hW'.block ob ho.lt hob).trans ho)
   exact h))
 have HPK := hid (fun y F W (hW : Below w.heap.size w W) (hF : ∀ r ∈ F, r < n) (hFl : F.length ≤ n) (hy : Rd W W.heap.size y F.length (natF F)) => expl_pick id nm v y xs F W.heap.size n W ((hkeep W hW).more fun b (hb : b < B) => by show b < W.heap.size; have := hW.size; omega) hy (Nat.le_refl _) hl hc hn4 hF (by omega))
 have HF1 : Hid (∀ r ∈ stayL (fun i => !keepF xs o i) n, r < n) := hid (fun r hr => List.mem_range.1 (List.mem_filter.1 hr).1)
 have HF2 := hid (stay_len (fun i => !keepF xs o i) n)
 generalize stayL (fun i => !keepF xs o i) n = F at *
 have hvs : ∃ va vc, v = .slice va xs.length vc := by
  obtain ⟨cv, ⟨a, c, e, -⟩, -⟩ := hv
  exact ⟨a, c, e⟩
 obtain ⟨va, vc, rfl⟩ := hvs
 obtain ⟨ua, un, uc, rfl⟩ := hu
 clear hv hkeep hRW hc hn hcol hk hk3 hdo
 obtain ⟨kind, col, text, cols⟩ := o
 simp only [Po.val] at *
 generalize xs.length = L at *
 have HX0 := hid (((BoxN.new w #[.int .i64 id, .string nm, .slice va L vc] 51).alloc (.cells #[.int .i64 kind, .int .i64 col, .string text, .slice ua un uc] 122)).alloc (.cells #[.int .i64 0, .string ⟨#[]⟩, .slice none 0 0] 51))
 have ho0 := (BoxN.new (w.alloc (.cells #[.int .i64 id, .string nm, .slice va L vc] 51)) #[.int .i64 kind, .int .i64 col, .string text, .slice ua un uc] 122).alloc (.cells #[.int .i64 0, .string ⟨#[]⟩, .slice none 0 0] 51)
 rw [World.size_alloc] at ho0
 have HO0 := hid ho0
 have HB0 := hid ((((Below.refl w.heap.size w).alloc (Nat.le_refl _) (.cells #[.int .i64 id, .string nm, .slice va L vc] 51)).alloc (by simp) (.cells #[.int .i64 kind, .int .i64 col, .string text, .slice ua un uc] 122)).alloc (by simp; omega) (.cells #[.int .i64 0, .string ⟨#[]⟩, .slice none 0 0] 51))
 have hy0 := BoxN.new ((w.alloc (.cells #[.int .i64 id, .string nm, .slice va L vc] 51)).alloc (.cells #[.int .i64 kind, .int .i64 col, .string text, .slice ua un uc] 122)) #[.int .i64 0, .string ⟨#[]⟩, .slice none 0 0] 51
 rw [World.size_alloc, World.size_alloc] at hy0
 have HY0 := hid hy0
 have hz0' : (((w.alloc (.cells #[.int .i64 id, .string nm, .slice va L vc] 51)).alloc (.cells #[.int .i64 kind, .int .i64 col, .string text, .slice ua un uc] 122)).alloc (.cells #[.int .i64 0, .string ⟨#[]⟩, .slice none 0 0] 51)).heap.size = w.heap.size + 3 := by simp
 clear hy0 ho0
 go_enter Tryz.func246, Tryz.ntmps246
 go_upto_region 1 with fail
 generalize ((w.alloc (.cells #[.int .i64 id, .string nm, .slice va L vc] 51)).alloc (.cells #[.int .i64 kind, .int .i64 col, .string text, .slice ua un uc] 122)).alloc (.cells #[.int .i64 0, .string ⟨#[]⟩, .slice none 0 0] 51) = W0 at *
 have HG := hid (fun W (hW : Below W0.heap.size W0 W) => (⟨(HX0.out.below hW HX0.out.lt).cell 0 rfl, (HX0.out.below hW HX0.out.lt).cell 1 rfl, (HX0.out.below hW HX0.out.lt).cell 2 rfl⟩ : W.cell? ⟨w.heap.size, 0, none⟩ = some (.int .i64 id) ∧ W.cell? ⟨w.heap.size, 1, none⟩ = some (.string nm) ∧ W.cell? ⟨w.heap.size, 2, none⟩ = some (.slice va L vc)))
 have HDR : Hid (Below W0.heap.size W0 W0.drew) := hid (Below.refl W0.heap.size W0).drew
 go_region_held3 (fun w' => w'.cell? ⟨w.heap.size, 0, none⟩ = some (.int .i64 id) ∧ w'.cell? ⟨w.heap.size, 1, none⟩ = some (.string nm) ∧ w'.cell? ⟨w.heap.size, 2, none⟩ = some (.slice va L vc))
  (first | exact HG.out _ (Below.refl _ _) | exact HG.out _ HDR.out | exact HG.out _ HC7.out | exact HG.out _ HC6.out | exact HG.out _ HC5.out | ((repeat rw [World.cell?_setCell_other _ _ _ _ (by intro e; injection e with e; omega)]); exact HG.out _ HC7.out) | go_keep)
  (first
   | (go_at_call 263; go_must ((with_reducible refine (HRW.out _ (HB0.out.trans (HDR.out.mono (by omega)))).mono ?_); rintro e w5 ⟨b5, rfl, hN5, hbb5, hb5⟩; have HC5 : Hid (Below W0.heap.size W0 w5) := hid (HDR.out.trans (hb5.mono HDR.out.size)); have HN5 := hid hN5; have hbb5' : W0.heap.size ≤ b5 := hbb5; clear hb5 hN5 hbb5))
   | (go_at_call 262; go_must ((with_reducible refine (HDEL.out b5 _ _ w5 (HB0.out.trans (HC5.out.mono (by omega))) HN5.out (by omega) (by omega) (by omega) (HX0.out.below HC5.out HX0.out.lt) (HO0.out.below HC5.out HO0.out.lt)).mono ?_); rintro e w6 ⟨rfl, hfl6, hcell6, hr6⟩; have HC6 : Hid (Below W0.heap.size W0 w6) := hid (HC5.out.trans (hr6.below hbb5' HC5.out.size)); have HCE6 := hid hcell6; have hz6 : b5 < w6.heap.size := Nat.lt_of_lt_of_le (World.rowIs.lt HN5.out) hr6.size; clear hr6 hcell6))
   | (go_at_call 249; go_must ((with_reducible refine (HPK.out _ F w6 (HB0.out.trans (HC6.out.mono (by omega))) HF1.out HF2.out (rd_head hfl6 hn4 hz6 HCE6.out)).mono ?_); rintro e w7 ⟨y, rfl, hco7, hb7⟩; have HC7 : Hid (Below W0.heap.size W0 w7) := hid (HC6.out.trans (hb7.mono HC6.out.size)); have HCO7 := hid hco7; have hzw7 := HC6.out.size; have hyy := HY0.out.below HC7.out HY0.out.lt; have y0 := hyy.cell 0 rfl; have y1 := hyy.cell 1 rfl; have y2 := hyy.cell 2 rfl; have f0 := hyy.frozen 0; have f1 := hyy.frozen 1; have f2 := hyy.frozen 2; obtain ⟨L7, hL7⟩ := hco7.owns; obtain ⟨ya, yc, rfl⟩ := own_slice hL7; clear hb7 hco7 hyy hL7)))
 all_goals
  clear HG
  go_wp2
  refine bodyPost_ret (v := .agg #[.int .i64 id, .string nm,   .slice ya (selL xs F).length yc]) (by simp [results, Tryz.results246, go_sem, y0, y1, y2]) rfl ⟨_, rfl, ?_, by have := HB0.out.trans (HC7.out.mono (by omega)); repeat' (first | (with_reducible exact Below.refl _ _) | (with_reducible assumption) | (with_reducible refine below_drewN ?_) | (with_reducible refine Below.alloc ?_ ?_ _) | (with_reducible refine Below.drew ?_) | (with_reducible refine Below.setCell ?_ ?_ _) | (with_reducible refine Below.trans ?_ (Below.mono (by with_reducible assumption) ?_)) | go_size)⟩
  exact (((HCO7.out.setCell (p := ⟨w.heap.size + 2, 0, none⟩) (by show w.heap.size + 2 < w6.heap.size; omega) _).setCell (p := ⟨w.heap.size + 2, 1, none⟩) (by show w.heap.size + 2 < w6.heap.size; omega) _).setCell (p := ⟨w.heap.size + 2, 2, none⟩) (by show w.heap.size + 2 < w6.heap.size; omega) _).lower (by omega)
end Go.Proofs.YtaajpliifdlokaaGreatDoor

namespace Go.Proofs.YtaajpliifdlokaaGreatDoor
open Go.RowKit
set_option maxRecDepth 100000 in
set_option maxHeartbeats 4000000 in
theorem expl_dist (o : Po) (hk : o.kind = 4) (id : Int) (nm : ByteArray) (v u : Value) (xs : List Co) (n B : Nat) (w : World) (hv : RdCo w (· < B) v xs) (hB : B ≤ w.heap.size) (hl : xs.length ≤ 1048576) (hc : ∀ x ∈ xs, x.cells.length = n) (hn : rowsC xs = n) (hn4 : n ≤ 4096) (hu : ∃ ua un uc, u = .slice ua un uc) :
  Calls Tryz.prog 248 #[.agg #[.int .i64 id, .string nm, v], o.val u] w (NewT w id nm (doL xs o)) := by
 have hk3 : o.kind ≠ 3 := by omega
 have hdo : doL xs o = selL xs (rowsL xs o n) := by rw [doL_rows hk3, hn]
 rw [hdo]
 have hkeep := fun W (hW : Below w.heap.size w W) => (hv.keep fun p (hp : p.block < B) => hW.cell (p := p) (by omega) : RdCo W (· < B) v xs)
 have HRW := hid (fun W (hW : Below w.heap.size w W) => expl_distinct o hk id nm v xs n B W (hkeep W hW) (Nat.le_trans hB hW.size) hc hn hn4 hl)
 have HPK := hid (fun y F W (hW : Below w.heap.size w W) (hF : ∀ r ∈ F, r < n) (hFl : F.length ≤ n) (hy : Rd W W.heap.size y F.length (natF F)) => expl_pick id nm v y xs F W.heap.size n W ((hkeep W hW).more fun b (hb : b < B) => by show b < W.heap.size; have := hW.size; omega) hy (Nat.le_refl _) hl hc (by omega) hF (by omega))
 have HF1 : Hid (∀ r ∈ rowsL xs o n, r < n) := hid (rowsL_ok xs o n).2
 have HF2 := hid (rowsL_ok xs o n).1
 generalize rowsL xs o n = F at *
 have hvs : ∃ va vc, v = .slice va xs.length vc := by
  obtain ⟨cv, ⟨a, c, e, -⟩, -⟩ := hv
  exact ⟨a, c, e⟩
 obtain ⟨va, vc, rfl⟩ := hvs
 obtain ⟨ua, un, uc, rfl⟩ := hu
 clear hv hkeep hc hn hk hk3 hdo
 obtain ⟨kind, col, text, cols⟩ := o
 simp only [Po.val] at *
 generalize xs.length = L at *
 have HX0 := hid (((BoxN.new w #[.int .i64 id, .string nm, .slice va L vc] 51).alloc (.cells #[.int .i64 kind, .int .i64 col, .string text, .slice ua un uc] 122)).alloc (.cells #[.int .i64 0, .string ⟨#[]⟩, .slice none 0 0] 51))
 have ho0 := (BoxN.new (w.alloc (.cells #[.int .i64 id, .string nm, .slice va L vc] 51)) #[.int .i64 kind, .int .i64 col, .string text, .slice ua un uc] 122).alloc (.cells #[.int .i64 0, .string ⟨#[]⟩, .slice none 0 0] 51)
 rw [World.size_alloc] at ho0
 have HO0 := hid ho0
 have HB0 := hid ((((Below.refl w.heap.size w).alloc (Nat.le_refl _) (.cells #[.int .i64 id, .string nm, .slice va L vc] 51)).alloc (by simp) (.cells #[.int .i64 kind, .int .i64 col, .string text, .slice ua un uc] 122)).alloc (by simp; omega) (.cells #[.int .i64 0, .string ⟨#[]⟩, .slice none 0 0] 51))
 have hy0 := BoxN.new ((w.alloc (.cells #[.int .i64 id, .string nm, .slice va L vc] 51)).alloc (.cells #[.int .i64 kind, .int .i64 col, .string text, .slice ua un uc] 122)) #[.int .i64 0, .string ⟨#[]⟩, .slice none 0 0] 51
 rw [World.size_alloc, World.size_alloc] at hy0
 have HY0 := hid hy0
 have hz0' : (((w.alloc (.cells #[.int .i64 id, .string nm, .slice va L vc] 51)).alloc (.cells #[.int .i64 kind, .int .i64 col, .string text, .slice ua un uc] 122)).alloc (.cells #[.int .i64 0, .string ⟨#[]⟩, .slice none 0 0] 51)).heap.size = w.heap.size + 3 := by simp
 clear hy0 ho0
 go_enter Tryz.func248, Tryz.ntmps248
 go_upto_region 1 with fail
 generalize ((w.alloc (.cells #[.int .i64 id, .string nm, .slice va L vc] 51)).alloc (.cells #[.int .i64 kind, .int .i64 col, .string text, .slice ua un uc] 122)).alloc (.cells #[.int .i64 0, .string ⟨#[]⟩, .slice none 0 0] 51) = W0 at *
 have HG := hid (fun W (hW : Below W0.heap.size W0 W) => (⟨(HX0.out.below hW HX0.out.lt).cell 0 rfl, (HX0.out.below hW HX0.out.lt).cell 1 rfl, (HX0.out.below hW HX0.out.lt).cell 2 rfl⟩ : W.cell? ⟨w.heap.size, 0, none⟩ = some (.int .i64 id) ∧ W.cell? ⟨w.heap.size, 1, none⟩ = some (.string nm) ∧ W.cell? ⟨w.heap.size, 2, none⟩ = some (.slice va L vc)))
 have HDR : Hid (Below W0.heap.size W0 W0.drew) := hid (Below.refl W0.heap.size W0).drew
 go_region_held3 (fun w' => w'.cell? ⟨w.heap.size, 0, none⟩ = some (.int .i64 id) ∧ w'.cell? ⟨w.heap.size, 1, none⟩ = some (.string nm) ∧ w'.cell? ⟨w.heap.size, 2, none⟩ = some (.slice va L vc))
  (first | exact HG.out _ (Below.refl _ _) | exact HG.out _ HDR.out | exact HG.out _ HC7.out | exact HG.out _ HC6.out | ((repeat rw [World.cell?_setCell_other _ _ _ _ (by intro e; injection e with e; omega)]); exact HG.out _ HC7.out) | go_keep)
  (first
   | (go_at_call 250; go_must ((with_reducible refine (HRW.out _ (HB0.out.trans (HDR.out.mono (by omega)))).mono ?_); rintro e w6 ⟨a6, c6, rfl, hrd6, hb6⟩; have HC6 : Hid (Below W0.heap.size W0 w6) := hid (HDR.out.trans (hb6.mono HDR.out.size)); have HRD6 := hid hrd6; clear hb6 hrd6))
   | (go_at_call 249; go_must ((with_reducible refine (HPK.out _ F w6 (HB0.out.trans (HC6.out.mono (by omega))) HF1.out HF2.out HRD6.out).mono ?_); rintro e w7 ⟨y, rfl, hco7, hb7⟩; have HC7 : Hid (Below W0.heap.size W0 w7) := hid (HC6.out.trans (hb7.mono HC6.out.size)); have HCO7 := hid hco7; have hzw7 := HC6.out.size; have hyy := HY0.out.below HC7.out HY0.out.lt; have y0 := hyy.cell 0 rfl; have y1 := hyy.cell 1 rfl; have y2 := hyy.cell 2 rfl; have f0 := hyy.frozen 0; have f1 := hyy.frozen 1; have f2 := hyy.frozen 2; obtain ⟨L7, hL7⟩ := hco7.owns; obtain ⟨ya, yc, rfl⟩ := own_slice hL7; clear hb7 hco7 hyy hL7)))
 all_goals
  clear HG
  go_wp2
  refine bodyPost_ret (v := .agg #[.int .i64 id, .string nm,   .slice ya (selL xs F).length yc]) (by simp [results, Tryz.results248, go_sem, y0, y1, y2]) rfl ⟨_, rfl, ?_, by have := HB0.out.trans (HC7.out.mono (by omega)); repeat' (first | (with_reducible exact Below.refl _ _) | (with_reducible assumption) | (with_reducible refine below_drewN ?_) | (with_reducible refine Below.alloc ?_ ?_ _) | (with_reducible refine Below.drew ?_) | (with_reducible refine Below.setCell ?_ ?_ _) | (with_reducible refine Below.trans ?_ (Below.mono (by with_reducible assumption) ?_)) | go_size)⟩
  exact (((HCO7.out.setCell (p := ⟨w.heap.size + 2, 0, none⟩) (by show w.heap.size + 2 < w6.heap.size; omega) _).setCell (p := ⟨w.heap.size + 2, 1, none⟩) (by show w.heap.size + 2 < w6.heap.size; omega) _).setCell (p := ⟨w.heap.size + 2, 2, none⟩) (by show w.heap.size + 2 < w6.heap.size; omega) _).lower (by omega)
end Go.Proofs.YtaajpliifdlokaaGreatDoor

namespace Go.Proofs.YtaajpliifdlokaaGreatDoor
open Go.RowKit
set_option maxRecDepth 100000 in
set_option maxHeartbeats 4000000 in
theorem expl_columns (o : Po) (hk3 : o.kind = 3) (id : Int) (nm : ByteArray) (v u : Value) (xs : List Co) (B : Nat) (w : World) (hv : RdCo w (· < B) v xs) (hu : Rd w B u o.cols.length (intF o.cols)) (hB : B ≤ w.heap.size) (hk : o.cols.all (thereL xs.length) = true) (hk2 : o.cols.length ≤ 64) (hc : ∀ x ∈ xs, x.cells.length ≤ 1048576) :
  Calls Tryz.prog 247 #[.agg #[.int .i64 id, .string nm, v], o.val u] w (NewT w id nm (doL xs o)) := by
 have hdo : doL xs o = projL xs o.cols := by unfold doL; rw [if_pos hk3]
 rw [hdo]
 obtain ⟨i0, hi, hz0, hz1, hz2⟩ := info_parts info_col
 obtain ⟨kind, col, text, ks⟩ := o
 simp only [Po.val] at *
 clear hdo hk3
 have HOW := hid (fun y W (hW : RdCo W (· < W.heap.size) y (projL xs ks)) => lists_Own id nm y (projL xs ks) W.heap.size W hW (Nat.le_refl _) (by rw [projL_len]; omega) (fun x hx => by
  obtain ⟨k, hkk, rfl⟩ := List.mem_map.1 hx
  have h1 := List.all_eq_true.1 hk k hkk
  unfold thereL at h1
  simp at h1
  exact hc _ (getD_mem (by omega) Co.z)))
 obtain ⟨cv, hcv, hcl⟩ := hv
 obtain ⟨a, c, rfl, hcc, hm, hr⟩ := hcv
 obtain ⟨ua, uc, rfl, huc, hum, hur⟩ := hu
 have HR := hid hr
 have HCL := hid hcl
 have HUR := hid hur
 have HKS : Hid (∀ q, q < ks.length → 0 ≤ ks.getD q 0 ∧ ks.getD q 0 < (xs.length : Int)) := hid (fun q hq => by
  have h1 := List.all_eq_true.1 hk _ (getD_mem hq 0)
  unfold thereL at h1
  simpa using h1)
 have HSN := hid (fun q (h : q < ks.length) => @projL_snoc xs ks q h)
 have HTK : Hid (ks.take ks.length = ks) := hid List.take_length
 clear hr hcl hur hk hc
 generalize hxl : xs.length = L at *
 clear hxl
 generalize hkl : ks.length = m at *
 have HKL := hid hkl
 clear hkl
 unfold maxLen at hm hum
 have HX0 := hid (((BoxN.new w #[.int .i64 id, .string nm, .slice a L c] 51).alloc (.cells #[.int .i64 kind, .int .i64 col, .string text, .slice ua m uc] 122)).alloc (.cells #[.int .i64 0, .string ⟨#[]⟩, .slice none 0 0] 51))
 have ho0 := (BoxN.new (w.alloc (.cells #[.int .i64 id, .string nm, .slice a L c] 51)) #[.int .i64 kind, .int .i64 col, .string text, .slice ua m uc] 122).alloc (.cells #[.int .i64 0, .string ⟨#[]⟩, .slice none 0 0] 51)
 rw [World.size_alloc] at ho0
 have HO0 := hid ho0
 have HB0 := hid ((((Below.refl w.heap.size w).alloc (Nat.le_refl _) (.cells #[.int .i64 id, .string nm, .slice a L c] 51)).alloc (by simp) (.cells #[.int .i64 kind, .int .i64 col, .string text, .slice ua m uc] 122)).alloc (by simp; omega) (.cells #[.int .i64 0, .string ⟨#[]⟩, .slice none 0 0] 51))
 have hy0 := BoxN.new ((w.alloc (.cells #[.int .i64 id, .string nm, .slice a L c] 51)).alloc (.cells #[.int .i64 kind, .int .i64 col, .string text, .slice ua m uc] 122)) #[.int .i64 0, .string ⟨#[]⟩, .slice none 0 0] 51
 rw [World.size_alloc, World.size_alloc] at hy0
 have HY0 := hid hy0
 have hz0' : (((w.alloc (.cells #[.int .i64 id, .string nm, .slice a L c] 51)).alloc (.cells #[.int .i64 kind, .int .i64 col, .string text, .slice ua m uc] 122)).alloc (.cells #[.int .i64 0, .string ⟨#[]⟩, .slice none 0 0] 51)).heap.size = w.heap.size + 3 := by simp
 have x0 := HX0.out.cell 0 rfl
 have x1 := HX0.out.cell 1 rfl
 have o3 := HO0.out.cell 3 rfl
 clear hy0 ho0
 go_enter Tryz.func247, Tryz.ntmps247
 generalize hLA : Code.loop _ = LA
 go_upto_region 1 with fail
 generalize ((w.alloc (.cells #[.int .i64 id, .string nm, .slice a L c] 51)).alloc (.cells #[.int .i64 kind, .int .i64 col, .string text, .slice ua m uc] 122)).alloc (.cells #[.int .i64 0, .string ⟨#[]⟩, .slice none 0 0] 51) = W0 at *
 have hz0a := Nat.le_of_eq hz0'
 have hz0b := Nat.le_of_eq hz0'.symm
 clear hz0'
 have HQ1 := hid (BoxN.new W0 #[.int .i64 id, .string nm, .slice none 0 0] 51)
 have HX2 := hid (HX0.out.alloc (.cells #[.int .i64 id, .string nm, .slice none 0 0] 51))
 have HY2 := hid (HY0.out.alloc (.cells #[.int .i64 id, .string nm, .slice none 0 0] 51))
 have HO2 := hid (HO0.out.alloc (.cells #[.int .i64 id, .string nm, .slice none 0 0] 51))
 have HB2 := hid (HB0.out.alloc (by omega) (.cells #[.int .i64 id, .string nm, .slice none 0 0] 51))
 have hz2' : (W0.alloc (.cells #[.int .i64 id, .string nm, .slice none 0 0] 51)).heap.size = W0.heap.size + 1 := by simp
 have o3' := HO2.out.cell 3 rfl
 go_wp2_with fail
 generalize W0.alloc (.cells #[.int .i64 id, .string nm, .slice none 0 0] 51) = W2 at *
 have hz2a := Nat.le_of_eq hz2'
 have hz2b := Nat.le_of_eq hz2'.symm
 clear hz2'
 clear x0 x1 o3 o3'
 subst hLA
 go_loopg [16] m (fun N i wr => ∃ (q : Nat) (y : Value), i = .int .i64 (q : Int) ∧ q + N = m ∧ Hid (GrowSt w W2 wr W0.heap.size W2.heap.size 51 (fun z => #[.int .i64 id, .string nm, z]) 55 2 y q (flatK 2 q (coF (projL xs (ks.take q)) (fun i => cv (ks.getD i 0).toNat)))))
 case atStart => exact ⟨0, .slice none 0 0, rfl, by omega, hid ⟨HB2.out, HQ1.out, World.ownsRow_nil _ _ _ _, Nat.le_refl _, fun _ _ _ => rfl⟩⟩
 case round =>
  obtain ⟨q, y, rfl, hq, HST⟩ := hrel
  have hlo := HST.out.low
  by_cases hp : 0 < gk
  ·obtain ⟨b, o, rfl, hb, hcell⟩ := HUR.out (by omega)
   have hb' : b < B := hb
   obtain ⟨hk0, hk1⟩ := HKS.out q (by omega)
   obtain ⟨ba, oa, rfl, hba, hcella⟩ := HR.out (by omega)
   have hba' : ba < B := hba
   have k0 : wr.cell? ⟨b, o + q, none⟩ = some (.int .i64 (ks.getD q 0)) := (HST.out.bel.cell (p := ⟨b, o + q, none⟩) (by show b < w.heap.size; omega)).trans (hcell q (by omega))
   have HSNq := hid (HSN.out q (by omega))
   obtain ⟨kq, hkq⟩ : ∃ kq : Nat, ks.getD q 0 = (kq : Int) := ⟨(ks.getD q 0).toNat, by omega⟩
   have hkL : kq < L := by omega
   have k1 : wr.cell? ⟨ba, oa + kq * 2, none⟩ = some (.string (xs.getD kq Co.z).name) := (HST.out.bel.cell (p := ⟨ba, oa + kq * 2, none⟩) (by show ba < w.heap.size; omega)).trans (hcella kq hkL 0 (by omega))
   have k2 : wr.cell? ⟨ba, oa + kq * 2 + 1, none⟩ = some (cv kq) := (HST.out.bel.cell (p := ⟨ba, oa + kq * 2 + 1, none⟩) (by show ba < w.heap.size; omega)).trans (hcella kq hkL 1 (by omega))
   obtain ⟨ca, ck, hcq, -, -, -⟩ := HCL.out kq hkL
   have HCQ := hid hcq
   rw [hkq] at k0 hk0 hk1
   rw [hcq] at k2
   have HKQ := hid hkq
   clear hcell hcella hkq hcq
   have hx2 := ((HST.out.keep w.heap.size (by omega) (by omega)).trans HX2.out)
   have t2 := (show BoxN wr w.heap.size _ _ from hx2).cell 2 rfl
   have s2 : wr.cell? ⟨W0.heap.size, 2, none⟩ = some y := HST.out.box.cell 2 rfl
   have sf2 := HST.out.box.frozen 2
   have HOWN := hid HST.out.own
   have HOB := hid HST.out.own.lt
   obtain ⟨ya, yc, rfl⟩ := own_slice HST.out.own
   have HPL : Hid ((projL xs (ks.take q)).length = q) := hid (by rw [projL_len, List.length_take]; have := HKL.out; omega)
   have HCW : Hid ((fun i => cv (ks.getD i 0).toNat) q = cv kq) := hid (by show cv (ks.getD q 0).toNat = _; rw [HKQ.out]; rfl)
   have HXN : Hid ((xs.getD (ks.getD q 0).toNat Co.z).name = (xs.getD kq Co.z).name) := hid (by rw [HKQ.out]; rfl)
   rw [HCQ.out] at HCW
   generalize (xs.getD kq Co.z).name = xn at *
   generalize (xs.getD kq Co.z).cells.length = cn at *
   clear hx2
   have HO1 := hid ((HOWN.out.alloc (.cells #[.string xn, .slice ca cn ck] 55)).drew)
   have HN1 := hid (show BoxN (wr.alloc (.cells #[.string xn, .slice ca cn ck] 55)).drew wr.heap.size 55 #[.string xn, .slice ca cn ck] from BoxN.new wr _ _)
   have HS1 := hid (HST.out.later (W' := (wr.alloc (.cells #[.string xn, .slice ca cn ck] 55)).drew) (by have h1 := Below.refl wr.heap.size wr; repeat' (first | (with_reducible exact Below.refl _ _) | (with_reducible assumption) | (with_reducible refine below_drewN ?_) | (with_reducible refine Below.alloc ?_ ?_ _) | (with_reducible refine Below.drew ?_) | (with_reducible refine Below.setCell ?_ ?_ _) | (with_reducible refine Below.trans ?_ (Below.mono (by with_reducible assumption) ?_)) | go_size)) HST.out.bel.size)
   have s3 : (wr.alloc (.cells #[.string xn, .slice ca cn ck] 55)).cell? ⟨W0.heap.size, 2, none⟩ = some (.slice ya q yc) := HS1.out.box.cell 2 rfl
   go_upto_region 5 with fail
   go_region_law ((refine step_append_form _ rfl (.tmp 21) (.tmp 27) 49 49 rfl W2.heap.size 55 55 i0 (.agg #[.string ⟨#[]⟩, .slice none 0 0]) 2 40 Tryz.underlying49 Tryz.underlying49 hi hz0 hz1 hz2 rfl (by decide) (.slice ya q yc) q _ rfl HO1.out (some ⟨wr.heap.size, 0, none⟩) 1 1 [.string xn, .slice ca cn ck] rfl rfl (fun _ => ⟨_, rfl, World.news_of_block HN1.out⟩) (by intro u hu; simp at hu; rcases hu with rfl | rfl <;> rfl) (by omega) (by unfold maxLen; omega) (by omega) (by simp; omega) ?_); intro p7 cap7 w7 hown7 hg7 hat7 hlt7; have hbx7 := HS1.out.box.grown hg7 (fun e => by have := HOB.out _ e.symm; omega); have q1 : w7.cell? ⟨W0.heap.size, 2, none⟩ = some (.slice ya q yc) := hbx7.cell 2 rfl; have fq1 := hbx7.frozen 2; have HG7 := hid hg7; have HOWN7 := hid hown7; clear hown7 hg7 hat7 hbx7)
   all_goals
    clear q1 fq1 s3 s2 sf2 t2 k0 k1 k2
    go_wp2
    go_roundg (gk - 1)
    case rel => exact ⟨q + 1, _, by go_num, by omega, hid (by rw [HSNq.out]; exact HS1.out.push (by rw [← co_push HPL.out HCW.out, HXN.out]; exact HOWN7.out) HG7.out 2 rfl (by omega) (by omega))⟩
    case measure => omega
  ·obtain rfl : gk = 0 := by omega
   obtain rfl : q = m := by omega
   have hown := HST.out.own
   rw [List.take_of_length_le (by have := HKL.out; omega)] at hown
   have hpl : (projL xs ks).length = q := by rw [projL_len]; exact HKL.out
   have hbe := HST.out.bel
   have hrd : RdCo wr (· < wr.heap.size) y (projL xs ks) := (rdco_shared (w0 := w) (w := w) (B := B) (W' := wr) hpl hown (fun i hi => by
    have hi' : i < q := by omega
    rw [projL_at (by rw [HKL.out]; exact hi')]
    obtain ⟨h0, h1⟩ := HKS.out i hi'
    exact HCL.out _ (by omega)) (fun p hp => hbe.cell (by omega)) (fun p _ _ => rfl) (by omega) (Nat.le_refl _)).more fun b hb => by
     rcases hb with hb | hb
     ·show b < wr.heap.size; have := hbe.size; omega
     ·exact hb.2
   have HON := hid (HOW.out y wr hrd)
   have HPLQ := hid hpl
   obtain ⟨ya, yc, rfl⟩ := own_slice HST.out.own
   have e0 : wr.cell? ⟨W0.heap.size, 0, none⟩ = some (.int .i64 id) := HST.out.box.cell 0 rfl
   have e1 : wr.cell? ⟨W0.heap.size, 1, none⟩ = some (.string nm) := HST.out.box.cell 1 rfl
   have e2 : wr.cell? ⟨W0.heap.size, 2, none⟩ = some (.slice ya q yc) := HST.out.box.cell 2 rfl
   have HYr := hid (show BoxN wr (w.heap.size + 2) _ _ from (HST.out.keep (w.heap.size + 2) (by omega) (by omega)).trans HY2.out)
   have HBE := hid hbe
   clear hrd hbe hown hpl
   go_wp2_with fail
   with_reducible refine HON.out.mono ?_
   rintro e w7 ⟨z, rfl, hco7, hb7⟩
   have hbz := hb7.size
   have HB7 := hid (HBE.out.trans (hb7.mono HBE.out.size))
   have hyy := HYr.out.below hb7 HYr.out.lt
   have HCO7 := hid hco7
   obtain ⟨L7, hL7⟩ := hco7.owns
   rw [HPLQ.out] at hL7
   obtain ⟨za, zc, rfl⟩ := own_slice hL7
   have y0 := hyy.cell 0 rfl
   have y1 := hyy.cell 1 rfl
   have y2 := hyy.cell 2 rfl
   have f0 := hyy.frozen 0
   have f1 := hyy.frozen 1
   have f2 := hyy.frozen 2
   clear hb7 hco7 hyy hL7 e0 e1 e2
   go_wp2
   have hws := HBE.out.size
   refine bodyPost_ret (v := .agg #[.int .i64 id, .string nm, .slice za q zc]) (by simp [results, Tryz.results247, go_sem, y0, y1, y2]) rfl ⟨_, rfl, ?_, by have := HB7.out; repeat' (first | (with_reducible exact Below.refl _ _) | (with_reducible assumption) | (with_reducible refine below_drewN ?_) | (with_reducible refine Below.alloc ?_ ?_ _) | (with_reducible refine Below.drew ?_) | (with_reducible refine Below.setCell ?_ ?_ _) | (with_reducible refine Below.trans ?_ (Below.mono (by with_reducible assumption) ?_)) | go_size)⟩
   exact (((HCO7.out.setCell (p := ⟨w.heap.size + 2, 0, none⟩) (by show w.heap.size + 2 < wr.heap.size; omega) _).setCell (p := ⟨w.heap.size + 2, 1, none⟩) (by show w.heap.size + 2 < wr.heap.size; omega) _).setCell (p := ⟨w.heap.size + 2, 2, none⟩) (by show w.heap.size + 2 < wr.heap.size; omega) _).lower (by omega)
end Go.Proofs.YtaajpliifdlokaaGreatDoor
