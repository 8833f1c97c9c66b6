/- Contract of the reference's Run at one operation (chapter 38). -/
import Derived.Test.YtaajpliifdlokaaGreatDoorLnNrbm
set_option linter.unusedVariables false
set_option linter.unusedSimpArgs false
namespace Go.Proofs.YtaajpliifdlokaaGreatDoor
open Go.RowKit
def RunP (w : World) (t : Ta) (o : Po) (e : Ending) (w' : World) : Prop :=
  (canL t.cols.length o = true ∧ ∃ v, e = .returned (.tuple #[.agg #[.int .i64 t.id, .string t.name, v], .int .i64 0]) ∧ CoSt w' w.heap.size 55 v (doL t.cols o) ∧ Below w.heap.size w w') ∨
  (canL t.cols.length o = false ∧ e = .returned (.tuple #[.agg #[.int .i64 0, .string ⟨#[]⟩, .slice none 0 0], .int .i64 24]) ∧ Below w.heap.size w w')
set_option maxRecDepth 100000 in
set_option maxHeartbeats 4000000 in
theorem ref38_Run1 (t : Ta) (v u : Value) (o : Po) (B lb : Nat) (w : World) (ht : TabV t) (hv : RdCo w (· < B) v t.cols) (hu : RdOp w B u o) (hB : B ≤ w.heap.size) (hT : Tabs w) (hlb : BoxN w lb 122 #[.int .i64 o.kind, .int .i64 o.col, .string o.text, u]) (htx : o.text.size ≤ 1099511627776) (hcl : o.cols.length ≤ 1048576) :
  Calls Tryz.prog 93 #[.agg #[.int .i64 t.id, .string t.name, v], .slice (some ⟨lb, 0, none⟩) 1 1] w (RunP w t o) := by
 have hxl64 : t.cols.length ≤ 64 := ht.2.2.2.1
 have hlz := hlb.lt
 have HVK := hid (fun W (hW : Below w.heap.size w W) => (hv.keep fun p (hp : p.block < B) => hW.cell (p := p) (by omega) : RdCo W (· < B) v t.cols))
 have HVL := hid (fun W (hW : Below w.heap.size w W) => ref_ValidTab t v B W ht (HVK.out W hW) (Nat.le_trans hB hW.size) (hT.below hW))
 have HCA := hid (fun W (hW : Below w.heap.size w W) => ref38_can t.id t.name v u t.cols o B W (HVK.out W hW) (hu.below hW hB) (Nat.le_trans hB hW.size) (by omega) hcl htx)
 have HDO := hid (fun W (hW : Below w.heap.size w W) (hc : canL t.cols.length o = true) => ref38_do t v u o B W ht (HVK.out W hW) (hu.below hW hB) (Nat.le_trans hB hW.size) (hT.below hW) hc htx)
 have HDV := hid (fun (hc : canL t.cols.length o = true) => do_valid ht hc)
 have HCP := hid (fun W y (hW : RdCo W (· < W.heap.size) y (doL t.cols o)) (hc : canL t.cols.length o = true) => ref38_Copy ⟨t.id, t.name, doL t.cols o⟩ y W.heap.size W hW (Nat.le_refl _) (by have := (do_valid ht hc).2.2.2.1; show (doL t.cols o).length ≤ 1048576; simp only at this; omega) (fun x hx => by
  obtain ⟨n, hn, h⟩ := (do_valid ht hc).cv
  have := (h x hx).2.1
  omega))
 obtain ⟨cv, ⟨va, vc, rfl, -, -, -⟩, -⟩ := hv
 obtain ⟨ua, uc, rfl, -, -, -⟩ := hu
 clear ht hT
 have HLB := hid hlb
 clear hlb
 cases hcan : canL t.cols.length o with
 | false =>
  unfold RunP
  rw [hcan]
  rw [hcan] at HCA
  clear HDO HDV HCP HVK hcan
  obtain ⟨id, nm, xs⟩ := t
  obtain ⟨kind, col, text, cols⟩ := o
  simp only [Po.val] at *
  generalize xs.length = L at *
  generalize cols.length = m at *
  have HX0 := hid ((BoxN.new w #[.int .i64 id, .string nm, .slice va L vc] 51).alloc (.cells #[.int .i64 0, .string ⟨#[]⟩, .slice none 0 0] 51))
  have hy0 := BoxN.new (w.alloc (.cells #[.int .i64 id, .string nm, .slice va L vc] 51)) #[.int .i64 0, .string ⟨#[]⟩, .slice none 0 0] 51
  rw [World.size_alloc] at hy0
  have HY0 := hid hy0
  have HB0 := hid (((Below.refl w.heap.size w).alloc (Nat.le_refl _) (.cells #[.int .i64 id, .string nm, .slice va L vc] 51)).alloc (by simp) (.cells #[.int .i64 0, .string ⟨#[]⟩, .slice none 0 0] 51))
  have hz0' : ((w.alloc (.cells #[.int .i64 id, .string nm, .slice va L vc] 51)).alloc (.cells #[.int .i64 0, .string ⟨#[]⟩, .slice none 0 0] 51)).heap.size = w.heap.size + 2 := by simp
  have x0 := HX0.out.cell 0 rfl
  have x1 := HX0.out.cell 1 rfl
  have x2 := HX0.out.cell 2 rfl
  clear hy0
  go_enter Tryz.func93, Tryz.ntmps93
  go_wp2_with fail
  generalize (w.alloc (.cells #[.int .i64 id, .string nm, .slice va L vc] 51)).alloc (.cells #[.int .i64 0, .string ⟨#[]⟩, .slice none 0 0] 51) = W0 at *
  with_reducible refine (HVL.out W0 HB0.out).mono ?_
  rintro e w1 ⟨rfl, hb1⟩
  have HB1 := hid (HB0.out.trans (hb1.mono (by omega)))
  have HX1 := hid (HX0.out.below hb1 HX0.out.lt)
  have HY1 := hid (HY0.out.below hb1 HY0.out.lt)
  have HL1 := hid (HLB.out.below HB1.out hlz)
  have hz1 := hb1.size
  clear x0 x1 x2 hb1 HVL
  have l0 := HL1.out.cell 0 rfl
  have l1 := HL1.out.cell 1 rfl
  have l2 := HL1.out.cell 2 rfl
  have l3 := HL1.out.cell 3 rfl
  have HX2 := hid (HX1.out.alloc (.cells #[.int .i64 kind, .int .i64 col, .string text, .slice ua m uc] 122))
  have HY2 := hid (HY1.out.alloc (.cells #[.int .i64 kind, .int .i64 col, .string text, .slice ua m uc] 122))
  have HO2 := hid (BoxN.new w1 #[.int .i64 kind, .int .i64 col, .string text, .slice ua m uc] 122)
  have HB2 := hid (HB1.out.alloc (by omega) (.cells #[.int .i64 kind, .int .i64 col, .string text, .slice ua m uc] 122))
  have hz2 : (w1.alloc (.cells #[.int .i64 kind, .int .i64 col, .string text, .slice ua m uc] 122)).heap.size = w1.heap.size + 1 := by simp
  have y0 := HX2.out.cell 0 rfl
  have y1 := HX2.out.cell 1 rfl
  have y2 := HX2.out.cell 2 rfl
  go_wp2_with fail
  refine wp_loop_rounds 2 ?_
  rw [rounds_succ]
  go_wp2_with fail
  generalize w1.alloc (.cells #[.int .i64 kind, .int .i64 col, .string text, .slice ua m uc] 122) = W2 at *
  with_reducible refine (HCA.out W2 HB2.out).mono ?_
  rintro e w3 ⟨rfl, hb3⟩
  have HB3 := hid (HB2.out.trans (hb3.mono (by omega)))
  have HX3 := hid (HX2.out.below hb3 HX2.out.lt)
  have HY3 := hid (HY2.out.below hb3 HY2.out.lt)
  have HO3 := hid (HO2.out.below hb3 HO2.out.lt)
  have hz3 := hb3.size
  clear y0 y1 y2 l0 l1 l2 l3 hb3 HCA
  have c0 := HY3.out.cell 0 rfl
  have c1 := HY3.out.cell 1 rfl
  have c2 := HY3.out.cell 2 rfl
  have f0 := HY3.out.frozen 0
  have f1 := HY3.out.frozen 1
  have f2 := HY3.out.frozen 2
  go_wp2
  refine bodyPost_ret (v := .tuple #[.agg #[.int .i64 0, .string ⟨#[]⟩, .slice none 0 0], .int .i64 24]) (by simp [results, Tryz.results93, go_sem, c0, c1, c2]) rfl (.inr ⟨trivial, rfl, by have h1 := HB3.out; repeat' (first | (with_reducible exact Below.refl _ _) | (with_reducible assumption) | (with_reducible refine below_drewN ?_) | (with_reducible refine Below.alloc ?_ ?_ _) | (with_reducible refine Below.drew ?_) | (with_reducible refine Below.setCell ?_ ?_ _) | (with_reducible refine Below.trans ?_ (Below.mono (by with_reducible assumption) ?_)) | go_size)⟩)
 | true =>
  unfold RunP
  rw [hcan]
  have HDO2 := hid (fun W (hW : Below w.heap.size w W) => HDO.out W hW hcan)
  have HCP2 := hid (fun W y hW => HCP.out W y hW hcan)
  rw [hcan] at HCA
  clear HDO HCP HVK HDV hcan
  generalize doL t.cols o = ys at *
  obtain ⟨id, nm, xs⟩ := t
  obtain ⟨kind, col, text, cols⟩ := o
  simp only [Po.val] at *
  generalize xs.length = L at *
  generalize cols.length = m at *
  have HX0 := hid ((BoxN.new w #[.int .i64 id, .string nm, .slice va L vc] 51).alloc (.cells #[.int .i64 0, .string ⟨#[]⟩, .slice none 0 0] 51))
  have hy0 := BoxN.new (w.alloc (.cells #[.int .i64 id, .string nm, .slice va L vc] 51)) #[.int .i64 0, .string ⟨#[]⟩, .slice none 0 0] 51
  rw [World.size_alloc] at hy0
  have HY0 := hid hy0
  have HB0 := hid (((Below.refl w.heap.size w).alloc (Nat.le_refl _) (.cells #[.int .i64 id, .string nm, .slice va L vc] 51)).alloc (by simp) (.cells #[.int .i64 0, .string ⟨#[]⟩, .slice none 0 0] 51))
  have hz0' : ((w.alloc (.cells #[.int .i64 id, .string nm, .slice va L vc] 51)).alloc (.cells #[.int .i64 0, .string ⟨#[]⟩, .slice none 0 0] 51)).heap.size = w.heap.size + 2 := by simp
  have x0 := HX0.out.cell 0 rfl
  have x1 := HX0.out.cell 1 rfl
  have x2 := HX0.out.cell 2 rfl
  clear hy0
  go_enter Tryz.func93, Tryz.ntmps93
  go_wp2_with fail
  generalize (w.alloc (.cells #[.int .i64 id, .string nm, .slice va L vc] 51)).alloc (.cells #[.int .i64 0, .string ⟨#[]⟩, .slice none 0 0] 51) = W0 at *
  with_reducible refine (HVL.out W0 HB0.out).mono ?_
  rintro e w1 ⟨rfl, hb1⟩
  have HB1 := hid (HB0.out.trans (hb1.mono (by omega)))
  have HX1 := hid (HX0.out.below hb1 HX0.out.lt)
  have HY1 := hid (HY0.out.below hb1 HY0.out.lt)
  have HL1 := hid (HLB.out.below HB1.out hlz)
  have hz1 := hb1.size
  clear x0 x1 x2 hb1 HVL
  have l0 := HL1.out.cell 0 rfl
  have l1 := HL1.out.cell 1 rfl
  have l2 := HL1.out.cell 2 rfl
  have l3 := HL1.out.cell 3 rfl
  have HX2 := hid (HX1.out.alloc (.cells #[.int .i64 kind, .int .i64 col, .string text, .slice ua m uc] 122))
  have HY2 := hid (HY1.out.alloc (.cells #[.int .i64 kind, .int .i64 col, .string text, .slice ua m uc] 122))
  have HO2 := hid (BoxN.new w1 #[.int .i64 kind, .int .i64 col, .string text, .slice ua m uc] 122)
  have HB2 := hid (HB1.out.alloc (by omega) (.cells #[.int .i64 kind, .int .i64 col, .string text, .slice ua m uc] 122))
  have hz2 : (w1.alloc (.cells #[.int .i64 kind, .int .i64 col, .string text, .slice ua m uc] 122)).heap.size = w1.heap.size + 1 := by simp
  have y0 := HX2.out.cell 0 rfl
  have y1 := HX2.out.cell 1 rfl
  have y2 := HX2.out.cell 2 rfl
  go_wp2_with fail
  refine wp_loop_rounds 2 ?_
  rw [rounds_succ]
  go_wp2_with fail
  generalize w1.alloc (.cells #[.int .i64 kind, .int .i64 col, .string text, .slice ua m uc] 122) = W2 at *
  with_reducible refine (HCA.out W2 HB2.out).mono ?_
  rintro e w3 ⟨rfl, hb3⟩
  have HB3 := hid (HB2.out.trans (hb3.mono (by omega)))
  have HX3 := hid (HX2.out.below hb3 HX2.out.lt)
  have HY3 := hid (HY2.out.below hb3 HY2.out.lt)
  have HO3 := hid (HO2.out.below hb3 HO2.out.lt)
  have hz3 := hb3.size
  clear y0 y1 y2 l0 l1 l2 l3 hb3 HCA
  have x0 := HX3.out.cell 0 rfl
  have x1 := HX3.out.cell 1 rfl
  have x2 := HX3.out.cell 2 rfl
  have o0 := HO3.out.cell 0 rfl
  have o1 := HO3.out.cell 1 rfl
  have o2 := HO3.out.cell 2 rfl
  have o3 := HO3.out.cell 3 rfl
  go_wp2_with fail
  with_reducible refine (HDO2.out w3 HB3.out).mono ?_
  rintro e w4 ⟨y, rfl, hrd4, hb4⟩
  have HB4 := hid (HB3.out.trans (hb4.mono (by omega)))
  have HX4 := hid (HX3.out.below hb4 HX3.out.lt)
  have HY4 := hid (HY3.out.below hb4 HY3.out.lt)
  have HRD4 := hid hrd4
  have hz4 := hb4.size
  obtain ⟨cy, ⟨ya, yc, rfl, -, -, -⟩, -⟩ := hrd4
  clear x0 x1 x2 o0 o1 o2 o3 hb4 HDO2
  have x0 := HX4.out.cell 0 rfl
  have x1 := HX4.out.cell 1 rfl
  have x2 := HX4.out.cell 2 rfl
  have g0 := HX4.out.frozen 0
  have g1 := HX4.out.frozen 1
  have g2 := HX4.out.frozen 2
  generalize hkl : ys.length = k at *
  have HKL := hid hkl
  clear hkl
  have HX5 := hid (((HX4.out.set 0 (.int .i64 id)).set 1 (.string nm)).set 2 (.slice ya k yc))
  have hne : w.heap.size ≠ w.heap.size + 1 := by omega
  have HY5 := hid (((HY4.out.other (p := ⟨w.heap.size, 0, none⟩) hne (.int .i64 id)).other (p := ⟨w.heap.size, 1, none⟩) hne (.string nm)).other (p := ⟨w.heap.size, 2, none⟩) hne (.slice ya k yc))
  have HB5 : Hid (Below w.heap.size w (((w4.setCell ⟨w.heap.size, 0, none⟩ (.int .i64 id)).setCell ⟨w.heap.size, 1, none⟩ (.string nm)).setCell ⟨w.heap.size, 2, none⟩ (.slice ya k yc))) := hid (by have h1 := HB4.out; repeat' (first | (with_reducible exact Below.refl _ _) | (with_reducible assumption) | (with_reducible refine below_drewN ?_) | (with_reducible refine Below.alloc ?_ ?_ _) | (with_reducible refine Below.drew ?_) | (with_reducible refine Below.setCell ?_ ?_ _) | (with_reducible refine Below.trans ?_ (Below.mono (by with_reducible assumption) ?_)) | go_size))
  have HRD5 : Hid (RdCo (((w4.setCell ⟨w.heap.size, 0, none⟩ (.int .i64 id)).setCell ⟨w.heap.size, 1, none⟩ (.string nm)).setCell ⟨w.heap.size, 2, none⟩ (.slice ya k yc)) (· < (((w4.setCell ⟨w.heap.size, 0, none⟩ (.int .i64 id)).setCell ⟨w.heap.size, 1, none⟩ (.string nm)).setCell ⟨w.heap.size, 2, none⟩ (.slice ya k yc)).heap.size) (.slice ya k yc) ys) := hid ((HRD4.out.keep fun p hp => by
   have hp' : p.block ≠ w.heap.size := by
    rcases hp with h | h
    ·omega
    ·have := h.1; omega
   rw [World.cell?_setCell_other _ _ _ _ (by intro e; subst e; exact hp' rfl), World.cell?_setCell_other _ _ _ _ (by intro e; subst e; exact hp' rfl), World.cell?_setCell_other _ _ _ _ (by intro e; subst e; exact hp' rfl)]).more fun b hb => by
    show b < _
    rcases hb with h | h
    ·simp; omega
    ·have := h.2; simpa using this)
  have hz5 : (((w4.setCell ⟨w.heap.size, 0, none⟩ (.int .i64 id)).setCell ⟨w.heap.size, 1, none⟩ (.string nm)).setCell ⟨w.heap.size, 2, none⟩ (.slice ya k yc)).heap.size = w4.heap.size := by simp
  go_wp2_with fail
  generalize ((w4.setCell ⟨w.heap.size, 0, none⟩ (.int .i64 id)).setCell ⟨w.heap.size, 1, none⟩ (.string nm)).setCell ⟨w.heap.size, 2, none⟩ (.slice ya k yc) = W5 at *
  clear x0 x1 x2 g0 g1 g2
  have x0 := HX5.out.cell 0 rfl
  have x1 := HX5.out.cell 1 rfl
  have x2 := HX5.out.cell 2 rfl
  rw [rounds_succ]
  go_wp2_with fail
  with_reducible refine (HCP2.out W5 _ HRD5.out).mono ?_
  rintro e w6 ⟨z, rfl, hco, hb6⟩
  have HB6 := hid (HB5.out.trans (hb6.mono (by omega)))
  have HY6 := hid (HY5.out.below hb6 HY5.out.lt)
  have hz6 := hb6.size
  have HCO := hid hco
  obtain ⟨L0, hL0⟩ := hco.owns
  rw [HKL.out] at hL0
  obtain ⟨za, zc, rfl⟩ := own_slice hL0
  clear hb6 x0 x1 x2 hco hL0 HCP2
  have c0 := HY6.out.cell 0 rfl
  have c1 := HY6.out.cell 1 rfl
  have c2 := HY6.out.cell 2 rfl
  have f0 := HY6.out.frozen 0
  have f1 := HY6.out.frozen 1
  have f2 := HY6.out.frozen 2
  go_wp2
  refine bodyPost_ret (v := .tuple #[.agg #[.int .i64 id, .string nm, .slice za k zc], .int .i64 0]) (by simp [results, Tryz.results93, go_sem, c0, c1, c2]) rfl (.inl ⟨trivial, _, rfl, ?_, by have h1 := HB6.out; repeat' (first | (with_reducible exact Below.refl _ _) | (with_reducible assumption) | (with_reducible refine below_drewN ?_) | (with_reducible refine Below.alloc ?_ ?_ _) | (with_reducible refine Below.drew ?_) | (with_reducible refine Below.setCell ?_ ?_ _) | (with_reducible refine Below.trans ?_ (Below.mono (by with_reducible assumption) ?_)) | go_size)⟩)
  exact (((HCO.out.setCell (p := ⟨w.heap.size + 1, 0, none⟩) (by show w.heap.size + 1 < W5.heap.size; omega) _).setCell (p := ⟨w.heap.size + 1, 1, none⟩) (by show w.heap.size + 1 < W5.heap.size; omega) _).setCell (p := ⟨w.heap.size + 1, 2, none⟩) (by show w.heap.size + 1 < W5.heap.size; omega) _).lower (by omega)
end Go.Proofs.YtaajpliifdlokaaGreatDoor
