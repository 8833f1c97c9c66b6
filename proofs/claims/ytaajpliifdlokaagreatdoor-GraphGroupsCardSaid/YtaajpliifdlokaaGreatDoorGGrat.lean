/- Contract of the reference's Run at one operation (chapter 38). The kit's dice: their memory; Mod, Next, Word. DERIVED: THE SHELF's CONTRACTS AT THIS DUMP, IN PLAIN WORDS (tools/lay-plain.mjs out of 'YtaajpliifdlokaaGreatDoorShJL.lean', which tools/lay-shelf.mjs wrote): THE SAME DECLARATIONS UNDER THE SAME NAMES: 'import', 'namespace', 'open', 'def', 'theorem' AND NOTHING ELSE: no command of the shelf's: FOR A HAND-IN. Each laying: the table of numbers ('.._ren') and one theorem, a field a fact of the dump's own or the kernel's comparison; each contract: ONE APPLICATION. -/
import Derived.Test.YtaajpliifdlokaaGreatDoorGGras
import Derived.IntWalk
import Derived.Lib.LaidTab
import Derived.Shelf.Strconv.Itoa3
import Derived.Test.YtaajpliifdlokaaGreatDoorGGrah
import Derived.Test.YtaajpliifdlokaaGreatDoorGGram
import Derived.Test.YtaajpliifdlokaaGreatDoorProg
set_option linter.unusedVariables false
set_option linter.unusedSimpArgs false
namespace Go.Proofs.YtaajpliifdlokaaGreatDoor
open Go.RowKit
def RunP (w : World) (t : Ta) (o : Po) (e : Ending) (w' : World) : Prop :=
  (canL t.cols.length o = true ∧ ∃ v, e = .returned (.tuple #[.agg #[.int .i64 t.id, .string t.name, v], .int .i64 0]) ∧ CoSt w' w.heap.size 55 v (doL t.cols o) ∧ Below w.heap.size w w') ∨
  (canL t.cols.length o = false ∧ e = .returned (.tuple #[.agg #[.int .i64 0, .string ⟨#[]⟩, .slice none 0 0], .int .i64 24]) ∧ Below w.heap.size w w')
set_option maxRecDepth 100000 in
set_option maxHeartbeats 4000000 in
theorem ref38_Run1 (t : Ta) (v u : Value) (o : Po) (B lb : Nat) (w : World) (ht : TabV t) (hv : RdCo w (· < B) v t.cols) (hu : RdOp w B u o) (hB : B ≤ w.heap.size) (hT : Tabs w) (hlb : BoxN w lb 122 #[.int .i64 o.kind, .int .i64 o.col, .string o.text, u]) (htx : o.text.size ≤ 1099511627776) (hcl : o.cols.length ≤ 1048576) :
  Calls Tryz.prog 93 #[.agg #[.int .i64 t.id, .string t.name, v], .slice (some ⟨lb, 0, none⟩) 1 1] w (RunP w t o) := by
 have hxl64 : t.cols.length ≤ 64 := ht.2.2.2.1
 have hlz := hlb.lt
 have HVK := hid (fun W (hW : Below w.heap.size w W) => (hv.keep fun p (hp : p.block < B) => hW.cell (p := p) (by omega) : RdCo W (· < B) v t.cols))
 have HVL := hid (fun W (hW : Below w.heap.size w W) => ref_ValidTab t v B W ht (HVK.out W hW) (Nat.le_trans hB hW.size) (hT.below hW))
 have HCA := hid (fun W (hW : Below w.heap.size w W) => ref38_can t.id t.name v u t.cols o B W (HVK.out W hW) (hu.below hW hB) (Nat.le_trans hB hW.size) (by omega) hcl htx)
 have HDO := hid (fun W (hW : Below w.heap.size w W) (hc : canL t.cols.length o = true) => ref38_do t v u o B W ht (HVK.out W hW) (hu.below hW hB) (Nat.le_trans hB hW.size) (hT.below hW) hc htx)
 have HDV := hid (fun (hc : canL t.cols.length o = true) => do_valid ht hc)
 have HCP := hid (fun W y (hW : RdCo W (· < W.heap.size) y (doL t.cols o)) (hc : canL t.cols.length o = true) => ref38_Copy ⟨t.id, t.name, doL t.cols o⟩ y W.heap.size W hW (Nat.le_refl _) (by have := (do_valid ht hc).2.2.2.1; show (doL t.cols o).length ≤ 1048576; simp only at this; omega) (fun x hx => by
  obtain ⟨n, hn, h⟩ := (do_valid ht hc).cv
  have := (h x hx).2.1
  omega))
 obtain ⟨cv, ⟨va, vc, rfl, -, -, -⟩, -⟩ := hv
 obtain ⟨ua, uc, rfl, -, -, -⟩ := hu
 clear ht hT
 have HLB := hid hlb
 clear hlb
 cases hcan : canL t.cols.length o with
 | false =>
  unfold RunP
  rw [hcan]
  rw [hcan] at HCA
  clear HDO HDV HCP HVK hcan
  obtain ⟨id, nm, xs⟩ := t
  obtain ⟨kind, col, text, cols⟩ := o
  simp only [Po.val] at *
  generalize xs.length = L at *
  generalize cols.length = m at *
  have HX0 := hid ((BoxN.new w #[.int .i64 id, .string nm, .slice va L vc] 51).alloc (.cells #[.int .i64 0, .string ⟨#[]⟩, .slice none 0 0] 51))
  have hy0 := BoxN.new (w.alloc (.cells #[.int .i64 id, .string nm, .slice va L vc] 51)) #[.int .i64 0, .string ⟨#[]⟩, .slice none 0 0] 51
  rw [World.size_alloc] at hy0
  have HY0 := hid hy0
  have HB0 := hid (((Below.refl w.heap.size w).alloc (Nat.le_refl _) (.cells #[.int .i64 id, .string nm, .slice va L vc] 51)).alloc (by simp) (.cells #[.int .i64 0, .string ⟨#[]⟩, .slice none 0 0] 51))
  have hz0' : ((w.alloc (.cells #[.int .i64 id, .string nm, .slice va L vc] 51)).alloc (.cells #[.int .i64 0, .string ⟨#[]⟩, .slice none 0 0] 51)).heap.size = w.heap.size + 2 := by simp
  have x0 := HX0.out.cell 0 rfl
  have x1 := HX0.out.cell 1 rfl
  have x2 := HX0.out.cell 2 rfl
  clear hy0
  go_enter Tryz.func93, Tryz.ntmps93
  go_wp2_with fail
  generalize (w.alloc (.cells #[.int .i64 id, .string nm, .slice va L vc] 51)).alloc (.cells #[.int .i64 0, .string ⟨#[]⟩, .slice none 0 0] 51) = W0 at *
  with_reducible refine (HVL.out W0 HB0.out).mono ?_
  rintro e w1 ⟨rfl, hb1⟩
  have HB1 := hid (HB0.out.trans (hb1.mono (by omega)))
  have HX1 := hid (HX0.out.below hb1 HX0.out.lt)
  have HY1 := hid (HY0.out.below hb1 HY0.out.lt)
  have HL1 := hid (HLB.out.below HB1.out hlz)
  have hz1 := hb1.size
  clear x0 x1 x2 hb1 HVL
  have l0 := HL1.out.cell 0 rfl
  have l1 := HL1.out.cell 1 rfl
  have l2 := HL1.out.cell 2 rfl
  have l3 := HL1.out.cell 3 rfl
  have HX2 := hid (HX1.out.alloc (.cells #[.int .i64 kind, .int .i64 col, .string text, .slice ua m uc] 122))
  have HY2 := hid (HY1.out.alloc (.cells #[.int .i64 kind, .int .i64 col, .string text, .slice ua m uc] 122))
  have HO2 := hid (BoxN.new w1 #[.int .i64 kind, .int .i64 col, .string text, .slice ua m uc] 122)
  have HB2 := hid (HB1.out.alloc (by omega) (.cells #[.int .i64 kind, .int .i64 col, .string text, .slice ua m uc] 122))
  have hz2 : (w1.alloc (.cells #[.int .i64 kind, .int .i64 col, .string text, .slice ua m uc] 122)).heap.size = w1.heap.size + 1 := by simp
  have y0 := HX2.out.cell 0 rfl
  have y1 := HX2.out.cell 1 rfl
  have y2 := HX2.out.cell 2 rfl
  go_wp2_with fail
  refine wp_loop_rounds 2 ?_
  rw [rounds_succ]
  go_wp2_with fail
  generalize w1.alloc (.cells #[.int .i64 kind, .int .i64 col, .string text, .slice ua m uc] 122) = W2 at *
  with_reducible refine (HCA.out W2 HB2.out).mono ?_
  rintro e w3 ⟨rfl, hb3⟩
  have HB3 := hid (HB2.out.trans (hb3.mono (by omega)))
  have HX3 := hid (HX2.out.below hb3 HX2.out.lt)
  have HY3 := hid (HY2.out.below hb3 HY2.out.lt)
  have HO3 := hid (HO2.out.below hb3 HO2.out.lt)
  have hz3 := hb3.size
  clear y0 y1 y2 l0 l1 l2 l3 hb3 HCA
  have c0 := HY3.out.cell 0 rfl
  have c1 := HY3.out.cell 1 rfl
  have c2 := HY3.out.cell 2 rfl
  have f0 := HY3.out.frozen 0
  have f1 := HY3.out.frozen 1
  have f2 := HY3.out.frozen 2
  go_wp2
  refine bodyPost_ret (v := .tuple #[.agg #[.int .i64 0, .string ⟨#[]⟩, .slice none 0 0], .int .i64 24]) (by simp [results, Tryz.results93, go_sem, c0, c1, c2]) rfl (.inr ⟨trivial, rfl, by have h1 := HB3.out; repeat' (first | (with_reducible exact Below.refl _ _) | (with_reducible assumption) | (with_reducible refine below_drewN ?_) | (with_reducible refine Below.alloc ?_ ?_ _) | (with_reducible refine Below.drew ?_) | (with_reducible refine Below.setCell ?_ ?_ _) | (with_reducible refine Below.trans ?_ (Below.mono (by with_reducible assumption) ?_)) | go_size)⟩)
 | true =>
  unfold RunP
  rw [hcan]
  have HDO2 := hid (fun W (hW : Below w.heap.size w W) => HDO.out W hW hcan)
  have HCP2 := hid (fun W y hW => HCP.out W y hW hcan)
  rw [hcan] at HCA
  clear HDO HCP HVK HDV hcan
  generalize doL t.cols o = ys at *
  obtain ⟨id, nm, xs⟩ := t
  obtain ⟨kind, col, text, cols⟩ := o
  simp only [Po.val] at *
  generalize xs.length = L at *
  generalize cols.length = m at *
  have HX0 := hid ((BoxN.new w #[.int .i64 id, .string nm, .slice va L vc] 51).alloc (.cells #[.int .i64 0, .string ⟨#[]⟩, .slice none 0 0] 51))
  have hy0 := BoxN.new (w.alloc (.cells #[.int .i64 id, .string nm, .slice va L vc] 51)) #[.int .i64 0, .string ⟨#[]⟩, .slice none 0 0] 51
  rw [World.size_alloc] at hy0
  have HY0 := hid hy0
  have HB0 := hid (((Below.refl w.heap.size w).alloc (Nat.le_refl _) (.cells #[.int .i64 id, .string nm, .slice va L vc] 51)).alloc (by simp) (.cells #[.int .i64 0, .string ⟨#[]⟩, .slice none 0 0] 51))
  have hz0' : ((w.alloc (.cells #[.int .i64 id, .string nm, .slice va L vc] 51)).alloc (.cells #[.int .i64 0, .string ⟨#[]⟩, .slice none 0 0] 51)).heap.size = w.heap.size + 2 := by simp
  have x0 := HX0.out.cell 0 rfl
  have x1 := HX0.out.cell 1 rfl
  have x2 := HX0.out.cell 2 rfl
  clear hy0
  go_enter Tryz.func93, Tryz.ntmps93
  go_wp2_with fail
  generalize (w.alloc (.cells #[.int .i64 id, .string nm, .slice va L vc] 51)).alloc (.cells #[.int .i64 0, .string ⟨#[]⟩, .slice none 0 0] 51) = W0 at *
  with_reducible refine (HVL.out W0 HB0.out).mono ?_
  rintro e w1 ⟨rfl, hb1⟩
  have HB1 := hid (HB0.out.trans (hb1.mono (by omega)))
  have HX1 := hid (HX0.out.below hb1 HX0.out.lt)
  have HY1 := hid (HY0.out.below hb1 HY0.out.lt)
  have HL1 := hid (HLB.out.below HB1.out hlz)
  have hz1 := hb1.size
  clear x0 x1 x2 hb1 HVL
  have l0 := HL1.out.cell 0 rfl
  have l1 := HL1.out.cell 1 rfl
  have l2 := HL1.out.cell 2 rfl
  have l3 := HL1.out.cell 3 rfl
  have HX2 := hid (HX1.out.alloc (.cells #[.int .i64 kind, .int .i64 col, .string text, .slice ua m uc] 122))
  have HY2 := hid (HY1.out.alloc (.cells #[.int .i64 kind, .int .i64 col, .string text, .slice ua m uc] 122))
  have HO2 := hid (BoxN.new w1 #[.int .i64 kind, .int .i64 col, .string text, .slice ua m uc] 122)
  have HB2 := hid (HB1.out.alloc (by omega) (.cells #[.int .i64 kind, .int .i64 col, .string text, .slice ua m uc] 122))
  have hz2 : (w1.alloc (.cells #[.int .i64 kind, .int .i64 col, .string text, .slice ua m uc] 122)).heap.size = w1.heap.size + 1 := by simp
  have y0 := HX2.out.cell 0 rfl
  have y1 := HX2.out.cell 1 rfl
  have y2 := HX2.out.cell 2 rfl
  go_wp2_with fail
  refine wp_loop_rounds 2 ?_
  rw [rounds_succ]
  go_wp2_with fail
  generalize w1.alloc (.cells #[.int .i64 kind, .int .i64 col, .string text, .slice ua m uc] 122) = W2 at *
  with_reducible refine (HCA.out W2 HB2.out).mono ?_
  rintro e w3 ⟨rfl, hb3⟩
  have HB3 := hid (HB2.out.trans (hb3.mono (by omega)))
  have HX3 := hid (HX2.out.below hb3 HX2.out.lt)
  have HY3 := hid (HY2.out.below hb3 HY2.out.lt)
  have HO3 := hid (HO2.out.below hb3 HO2.out.lt)
  have hz3 := hb3.size
  clear y0 y1 y2 l0 l1 l2 l3 hb3 HCA
  have x0 := HX3.out.cell 0 rfl
  have x1 := HX3.out.cell 1 rfl
  have x2 := HX3.out.cell 2 rfl
  have o0 := HO3.out.cell 0 rfl
  have o1 := HO3.out.cell 1 rfl
  have o2 := HO3.out.cell 2 rfl
  have o3 := HO3.out.cell 3 rfl
  go_wp2_with fail
  with_reducible refine (HDO2.out w3 HB3.out).mono ?_
  rintro e w4 ⟨y, rfl, hrd4, hb4⟩
  have HB4 := hid (HB3.out.trans (hb4.mono (by omega)))
  have HX4 := hid (HX3.out.below hb4 HX3.out.lt)
  have HY4 := hid (HY3.out.below hb4 HY3.out.lt)
  have HRD4 := hid hrd4
  have hz4 := hb4.size
  obtain ⟨cy, ⟨ya, yc, rfl, -, -, -⟩, -⟩ := hrd4
  clear x0 x1 x2 o0 o1 o2 o3 hb4 HDO2
  have x0 := HX4.out.cell 0 rfl
  have x1 := HX4.out.cell 1 rfl
  have x2 := HX4.out.cell 2 rfl
  have g0 := HX4.out.frozen 0
  have g1 := HX4.out.frozen 1
  have g2 := HX4.out.frozen 2
  generalize hkl : ys.length = k at *
  have HKL := hid hkl
  clear hkl
  have HX5 := hid (((HX4.out.set 0 (.int .i64 id)).set 1 (.string nm)).set 2 (.slice ya k yc))
  have hne : w.heap.size ≠ w.heap.size + 1 := by omega
  have HY5 := hid (((HY4.out.other (p := ⟨w.heap.size, 0, none⟩) hne (.int .i64 id)).other (p := ⟨w.heap.size, 1, none⟩) hne (.string nm)).other (p := ⟨w.heap.size, 2, none⟩) hne (.slice ya k yc))
  have HB5 : Hid (Below w.heap.size w (((w4.setCell ⟨w.heap.size, 0, none⟩ (.int .i64 id)).setCell ⟨w.heap.size, 1, none⟩ (.string nm)).setCell ⟨w.heap.size, 2, none⟩ (.slice ya k yc))) := hid (by have h1 := HB4.out; repeat' (first | (with_reducible exact Below.refl _ _) | (with_reducible assumption) | (with_reducible refine below_drewN ?_) | (with_reducible refine Below.alloc ?_ ?_ _) | (with_reducible refine Below.drew ?_) | (with_reducible refine Below.setCell ?_ ?_ _) | (with_reducible refine Below.trans ?_ (Below.mono (by with_reducible assumption) ?_)) | go_size))
  have HRD5 : Hid (RdCo (((w4.setCell ⟨w.heap.size, 0, none⟩ (.int .i64 id)).setCell ⟨w.heap.size, 1, none⟩ (.string nm)).setCell ⟨w.heap.size, 2, none⟩ (.slice ya k yc)) (· < (((w4.setCell ⟨w.heap.size, 0, none⟩ (.int .i64 id)).setCell ⟨w.heap.size, 1, none⟩ (.string nm)).setCell ⟨w.heap.size, 2, none⟩ (.slice ya k yc)).heap.size) (.slice ya k yc) ys) := hid ((HRD4.out.keep fun p hp => by
   have hp' : p.block ≠ w.heap.size := by
    rcases hp with h | h
    ·omega
    ·have := h.1; omega
   rw [World.cell?_setCell_other _ _ _ _ (by intro e; subst e; exact hp' rfl), World.cell?_setCell_other _ _ _ _ (by intro e; subst e; exact hp' rfl), World.cell?_setCell_other _ _ _ _ (by intro e; subst e; exact hp' rfl)]).more fun b hb => by
    show b < _
    rcases hb with h | h
    ·simp; omega
    ·have := h.2; simpa using this)
  have hz5 : (((w4.setCell ⟨w.heap.size, 0, none⟩ (.int .i64 id)).setCell ⟨w.heap.size, 1, none⟩ (.string nm)).setCell ⟨w.heap.size, 2, none⟩ (.slice ya k yc)).heap.size = w4.heap.size := by simp
  go_wp2_with fail
  generalize ((w4.setCell ⟨w.heap.size, 0, none⟩ (.int .i64 id)).setCell ⟨w.heap.size, 1, none⟩ (.string nm)).setCell ⟨w.heap.size, 2, none⟩ (.slice ya k yc) = W5 at *
  clear x0 x1 x2 g0 g1 g2
  have x0 := HX5.out.cell 0 rfl
  have x1 := HX5.out.cell 1 rfl
  have x2 := HX5.out.cell 2 rfl
  rw [rounds_succ]
  go_wp2_with fail
  with_reducible refine (HCP2.out W5 _ HRD5.out).mono ?_
  rintro e w6 ⟨z, rfl, hco, hb6⟩
  have HB6 := hid (HB5.out.trans (hb6.mono (by omega)))
  have HY6 := hid (HY5.out.below hb6 HY5.out.lt)
  have hz6 := hb6.size
  have HCO := hid hco
  obtain ⟨L0, hL0⟩ := hco.owns
  rw [HKL.out] at hL0
  obtain ⟨za, zc, rfl⟩ := own_slice hL0
  clear hb6 x0 x1 x2 hco hL0 HCP2
  have c0 := HY6.out.cell 0 rfl
  have c1 := HY6.out.cell 1 rfl
  have c2 := HY6.out.cell 2 rfl
  have f0 := HY6.out.frozen 0
  have f1 := HY6.out.frozen 1
  have f2 := HY6.out.frozen 2
  go_wp2
  refine bodyPost_ret (v := .tuple #[.agg #[.int .i64 id, .string nm, .slice za k zc], .int .i64 0]) (by simp [results, Tryz.results93, go_sem, c0, c1, c2]) rfl (.inl ⟨trivial, _, rfl, ?_, by have h1 := HB6.out; repeat' (first | (with_reducible exact Below.refl _ _) | (with_reducible assumption) | (with_reducible refine below_drewN ?_) | (with_reducible refine Below.alloc ?_ ?_ _) | (with_reducible refine Below.drew ?_) | (with_reducible refine Below.setCell ?_ ?_ _) | (with_reducible refine Below.trans ?_ (Below.mono (by with_reducible assumption) ?_)) | go_size)⟩)
  exact (((HCO.out.setCell (p := ⟨w.heap.size + 1, 0, none⟩) (by show w.heap.size + 1 < W5.heap.size; omega) _).setCell (p := ⟨w.heap.size + 1, 1, none⟩) (by show w.heap.size + 1 < W5.heap.size; omega) _).setCell (p := ⟨w.heap.size + 1, 2, none⟩) (by show w.heap.size + 1 < W5.heap.size; omega) _).lower (by omega)
end Go.Proofs.YtaajpliifdlokaaGreatDoor

namespace Go.Proofs.YtaajpliifdlokaaGreatDoor
open Go.RowKit
def Pow (w : World) : Prop := Lib.TabIs Tryz.prog w "internal/strconv.uint64pow10" .u64 Lib.pow10Tab
theorem pow_named : Tryz.prog.globalNamed "internal/strconv.uint64pow10" = some 4 := by kernel_rfl
theorem Pow.keep {w w' : World} (h : Pow w) (hb : w'.heap[(4 : Nat)]? = w.heap[(4 : Nat)]?) : Pow w' := by
  unfold Pow Lib.TabIs World.var? at *
  rw [pow_named] at *
  simp only [Option.bind_some] at *
  rw [hb]
  exact h
theorem Pow.lt {w : World} (h : Pow w) : 4 < w.heap.size := by
  unfold Pow Lib.TabIs World.var? at h
  rw [pow_named] at h
  simp only [Option.bind_some] at h
  rcases Nat.lt_or_ge 4 w.heap.size with h' | h'
  · exact h'
  · rw [Array.getElem?_eq_none h'] at h; cases h
theorem Pow.below {w w' : World} (h : Pow w) {B : Nat} (hb : Below B w w') (hB : w.heap.size ≤ B) : Pow w' := h.keep (hb.block _ (Nat.lt_of_lt_of_le h.lt hB))
def KDice (w : World) (g : Nat) : Prop := (4 < g ∧ Pow w) ∧
  ∃ (a : Option Addr) (n c k : Nat), w.heap[g]? = some (.cells #[.slice a n c, .int .i64 (k : Int)] 86 (0, 0)) ∧ k ≤ n ∧ n ≤ 500 ∧
    (0 < n → ∃ b o, a = some ⟨b, o, none⟩ ∧ b < g ∧ ∀ i, i < n → ∃ z : Int, w.cell? ⟨b, o + i, none⟩ = some (.int .i64 z))
section
variable {w w' : World} {g B : Nat}
theorem KDice.lt (h : KDice w g) : g < w.heap.size := by
  obtain ⟨_, a, n, c, k, hh, _⟩ := h
  exact (Array.getElem?_eq_some_iff.1 hh).1
theorem KDice.pow (h : KDice w g) : Pow w := h.1.2
theorem KDice.keep (h : KDice w g) (hb : ∀ k, k ≤ g → w'.heap[k]? = w.heap[k]?) : KDice w' g := by
  obtain ⟨⟨h0, hp⟩, a, n, c, k, hh, h1, h2, h3⟩ := h
  refine ⟨⟨h0, hp.keep (hb _ (by omega))⟩, a, n, c, k, (hb g (Nat.le_refl _)).trans hh, h1, h2, fun hn => ?_⟩
  obtain ⟨b, o, e, hlt, hc⟩ := h3 hn
  exact ⟨b, o, e, hlt, fun i hi => by
    obtain ⟨x, hcx⟩ := hc i hi
    exact ⟨x, (World.cell?_of_block (hb b (by omega))).trans hcx⟩⟩
theorem KDice.below (h : KDice w g) (hb : Below B w w') (hB : g < B) : KDice w' g := h.keep fun k hk => hb.block k (by omega)
theorem KDice.drewN (h : KDice w g) (n : Nat) : KDice (w.drewN n) g := h.keep fun _ _ => rfl
theorem KDice.drew (h : KDice w g) : KDice w.drew g := h.keep fun _ _ => rfl
theorem KDice.alloc (h : KDice w g) (o : Obj) : KDice (w.alloc o) g := h.below ((Below.refl _ _).alloc (Nat.le_refl _) o) h.lt
theorem KDice.store (h : KDice w g) {p : Addr} (hp : g < p.block) (u : Value) : KDice (w.setCell p u) g := h.keep fun k hk => Below.heap_setCell _ _ _ _ (by omega)
theorem KDice.next {a : Option Addr} {n c k : Nat} (h0 : 4 < g ∧ Pow w) (hh : w.heap[g]? = some (.cells #[.slice a n c, .int .i64 (k : Int)] 86 (0, 0))) (h1 : k < n) (h2 : n ≤ 500)
    (h3 : 0 < n → ∃ b o, a = some ⟨b, o, none⟩ ∧ b < g ∧ ∀ i, i < n → ∃ z : Int, w.cell? ⟨b, o + i, none⟩ = some (.int .i64 z)) : KDice (w.setCell ⟨g, 1, none⟩ (.int .i64 ((k : Int) + 1))) g := by
  refine ⟨⟨h0.1, h0.2.keep (Below.heap_setCell _ _ _ _ (by have := h0.1; show _ ≠ g; omega))⟩, a, n, c, k + 1, ?_, h1, h2, fun hn => ?_⟩
  · rw [show (((k + 1 : Nat) : Int)) = (k : Int) + 1 from by omega]
    simp [World.setCell, Array.getElem?_modify, hh]
  · obtain ⟨b, o, e, hlt, hc⟩ := h3 hn
    refine ⟨b, o, e, hlt, fun i hi => ?_⟩
    obtain ⟨x, hcx⟩ := hc i hi
    refine ⟨x, ?_⟩
    rw [World.cell?_setCell_other, hcx]
    intro e2
    injection e2 with e3
    omega
end
theorem tmod_twice (n m : Int) (hm : 1 ≤ m) : -m < Int.tmod n m ∧ Int.tmod n m < m ∧ Int.tmod n m % m = n % m := by
  have h1 := Int.emod_nonneg n (show m ≠ 0 by omega)
  have h2 := Int.emod_lt_of_pos n (show 0 < m by omega)
  have h3 : Int.tmod n m = n % m ∨ Int.tmod n m = n % m - m := by
    rw [Int.tmod_eq_emod]
    split
    · left; omega
    · right; omega
  have hz : Int.tmod n m = n % m - m → 0 < n % m := by
    intro h
    rcases Int.lt_or_le 0 n with hn | hn
    · have := Int.tmod_nonneg m (show 0 ≤ n by omega)
      omega
    · have h4 : m ∣ n → Int.tmod n m = 0 := fun hd => Int.tmod_eq_zero_of_dvd hd
      by_cases hd : m ∣ n
      · have := h4 hd
        have := Int.emod_eq_zero_of_dvd hd
        omega
      · have : n % m ≠ 0 := fun h => hd (Int.dvd_of_emod_eq_zero h)
        omega
  refine ⟨?_, ?_, ?_⟩
  · rcases h3 with h | h
    · omega
    · have := hz h; omega
  · rcases h3 with h | h <;> omega
  · rcases h3 with h | h
    · rw [h, Int.emod_emod_of_dvd _ (Int.dvd_refl _)]
    · rw [h, Int.sub_emod_right, Int.emod_emod_of_dvd _ (Int.dvd_refl _)]
set_option maxHeartbeats 400000 in
theorem kit_Mod (n m : Int) (hm : 1 ≤ m) (hm2 : m ≤ 1099511627776) (w : World) : Calls Tryz.prog 13 #[.int .i64 n, .int .i64 m] w (fun e w' => e = .returned (.int .i64 (n % m)) ∧ w = w') := by
  obtain ⟨h1, h2, h3⟩ := tmod_twice n m hm
  have HM := hid h3
  clear h3
  have hm0 : ¬ m < 1 := by omega
  have hd : decide (m < 1) = false := decide_eq_false hm0
  have hne : ¬ m = 0 := by omega
  generalize hr : Int.tmod n m = r at *
  have hw1 : IntKind.i64.wrap r = r := IntWalk.i64_in _ (by omega)
  have hw2 : IntKind.i64.wrap (r + m) = r + m := IntWalk.i64_in _ (by omega)
  go_enter Tryz.func13, Tryz.ntmps13
  go_wp2_with fail
  go_ret
  exact ⟨ret_int HM.out, rfl⟩
theorem kit_Mod0 (n m : Int) (hm : m < 1) (w : World) : Calls Tryz.prog 13 #[.int .i64 n, .int .i64 m] w (fun e w' => e = .returned (.int .i64 0) ∧ w = w') := by
  have hd : decide (m < 1) = true := decide_eq_true hm
  go_enter Tryz.func13, Tryz.ntmps13
  go_wp2_with fail
  go_ret
  exact ⟨rfl, rfl⟩
def KPick (w : World) (g : Nat) (N : Int) (e : Ending) (w' : World) : Prop :=
  ∃ m : Nat, e = .returned (.int .i64 (m : Int)) ∧ (m : Int) < max N 1 ∧ KDice w' g ∧ Roll w.heap.size g w w' ∧ w'.heap.size = w.heap.size
theorem kit_ModN (z N : Int) (h1 : 0 ≤ N) (h2 : N ≤ 1099511627776) : ∃ m : Nat, (m : Int) < max N 1 ∧ ∀ w, Calls Tryz.prog 13 #[.int .i64 z, .int .i64 N] w (fun e w' => e = .returned (.int .i64 (m : Int)) ∧ w = w') := by
  by_cases h : 1 ≤ N
  · have hlo : 0 ≤ z % N := Int.emod_nonneg _ (by omega)
    have hhi : z % N < N := Int.emod_lt_of_pos _ (by omega)
    refine ⟨(z % N).toNat, by omega, fun w => ?_⟩
    rw [show (((z % N).toNat : Nat) : Int) = z % N by omega]
    exact kit_Mod z N h h2 w
  · exact ⟨0, by omega, fun w => kit_Mod0 z N (by omega) w⟩
set_option maxHeartbeats 1000000 in
theorem kit_Next (g : Nat) (N : Int) (w : World) (hd : KDice w g) (h1 : 0 ≤ N) (h2 : N ≤ 1099511627776) :
    Calls Tryz.prog 25 #[.pointer (some ⟨g, 0, none⟩), .int .i64 N] w (KPick w g N) := by
  have HD := hid hd
  obtain ⟨h0, a, n, c, k, hh, hk, hn, hs⟩ := hd
  have H0 := hid h0
  clear h0
  have HH := hid hh
  have HS := hid hs
  have c0 : w.cell? ⟨g, 0, none⟩ = some (.slice a n c) := by rw [cell_of_row w g 0 _ _ _ hh]; rfl
  have c1 : w.cell? ⟨g, 1, none⟩ = some (.int .i64 (k : Int)) := by rw [cell_of_row w g 1 _ _ _ hh]; rfl
  have f1 : w.frozen? ⟨g, 1, none⟩ = false := by simp [World.frozen?, hh]
  clear hh hs
  by_cases hlt : k < n
  · obtain ⟨b, o, rfl, hbg, hc⟩ := HS.out (by omega)
    obtain ⟨z, hcx⟩ := hc k hlt
    obtain ⟨r, hrN, hmod⟩ := kit_ModN z N h1 h2
    have HMD := hid hmod
    have HNX := hid (fun q : Nat => KDice.next (w := w.drewN q) ⟨H0.out.1, H0.out.2.keep rfl⟩ HH.out hlt hn HS.out)
    have hne : b ≠ g := by omega
    have HCX := hid hcx
    have HRN := hid hrN
    clear hc hcx hmod hrN
    go_enter Tryz.func25, Tryz.ntmps25
    go_wp2
    go_quiet (fail)
    go_wp2
    have hDN := HNX.out nq
    have hRO : Roll w.heap.size g w ((w.drewN nq).setCell ⟨g, 1, none⟩ (.int .i64 ((k : Int) + 1))) := ((Roll.refl w.heap.size g w).drewN nq).setCell (p := ⟨g, 1, none⟩) rfl _
    have hSZ : ((w.drewN nq).setCell ⟨g, 1, none⟩ (.int .i64 ((k : Int) + 1))).heap.size = w.heap.size := by simp
    have e0 : ((w.drewN nq).setCell ⟨g, 1, none⟩ (.int .i64 ((k : Int) + 1))).cell? ⟨g, 0, none⟩ = some (.slice (some ⟨b, o, none⟩) n c) := by
      rw [World.cell?_setCell_other _ _ _ _ (by intro h; injection h with _ h2; omega)]; exact c0
    have e1 : ((w.drewN nq).setCell ⟨g, 1, none⟩ (.int .i64 ((k : Int) + 1))).cell? ⟨g, 1, none⟩ = some (.int .i64 ((k : Int) + 1)) := World.cell?_setCell_same _ _ _ c1
    have e2 : ((w.drewN nq).setCell ⟨g, 1, none⟩ (.int .i64 ((k : Int) + 1))).cell? ⟨b, o + k, none⟩ = some (.int .i64 z) := by
      rw [World.cell?_setCell_other _ _ _ _ (by intro h; injection h with h2; omega)]; exact HCX.out
    have HDN := hid hDN
    have HRO := hid hRO
    have HSZ := hid hSZ
    clear hDN hRO hSZ c0 c1 f1 HNX
    generalize (w.drewN nq).setCell ⟨g, 1, none⟩ (.int .i64 ((k : Int) + 1)) = W at *
    go_quiet ((go_at_call 13; exact Calls.quiet_of_same ((HMD.out _).mono (fun _ _ h => ⟨h.1, h.2.symm⟩))))
    go_wp2
    go_ret
    exact ⟨r, rfl, HRN.out, HDN.out.drewN _, HRO.out.drewN _, HSZ.out⟩
  · go_enter Tryz.func25, Tryz.ntmps25
    go_wp2
    go_quiet (fail)
    go_wp2
    go_ret
    exact ⟨0, rfl, by simp; omega, HD.out, (Roll.refl _ _ _).drewN _, rfl⟩
def KWord (w : World) (g : Nat) (l : List ByteArray) (e : Ending) (w' : World) : Prop :=
  ∃ s : ByteArray, e = .returned (.string s) ∧ s ∈ l ∧ KDice w' g ∧ Roll w.heap.size g w w' ∧ w'.heap.size = w.heap.size
set_option maxHeartbeats 1000000 in
theorem kit_Word (g b n : Nat) (l : List ByteArray) (w : World) (hd : KDice w g) (hb : BoxN w b 9 (l.map Value.string).toArray) (hne : b ≠ g) (hn : n = l.length) (h1 : 1 ≤ n) (h2 : n ≤ 100) :
    Calls Tryz.prog 35 #[.pointer (some ⟨g, 0, none⟩), .slice (some ⟨b, 0, none⟩) n n] w (KWord w g l) := by
  have HB := hid hb
  have HD := hid hd
  have HL := hid hn
  have hbl := hb.lt
  clear hb hd hn
  go_enter Tryz.func35, Tryz.ntmps35
  go_wp2_with fail
  with_reducible refine (kit_Next g _ _ HD.out (by omega) (by omega)).mono ?_
  rintro e w1 ⟨m, rfl, hm, hd1, hr1, hs1⟩
  have hmn : m < n := by omega
  have hml : m < l.length := by rw [← HL.out]; exact hmn
  have c1 : w1.cell? ⟨b, m, none⟩ = some (.string (l.getD m ⟨#[]⟩)) := (HB.out.roll hr1 hbl hne).cell m (by simp [List.getD, hml])
  have HM := hid (show l.getD m ⟨#[]⟩ ∈ l by rw [List.getD, List.getElem?_eq_getElem hml]; exact List.getElem_mem hml)
  have HD1 := hid hd1
  have HR1 := hid hr1
  have HS1 := hid hs1
  clear hd1 hr1 hs1 hml
  generalize l.getD m ⟨#[]⟩ = s at *
  go_wp2
  go_ret
  exact ⟨s, rfl, HM.out, HD1.out, HR1.out, HS1.out⟩
end Go.Proofs.YtaajpliifdlokaaGreatDoor

namespace Go.Proofs
open Go.Shelf
def Tryz.layItoaM_ren : Go.Shelf.Ren := ⟨fun | 171 => 148 | 243 => 204 | 246 => 234 | 283 => 255 | 284 => 256 | 285 => 257 | 286 => 258 | 129 => 145 | 317 => 270 | 318 => 271 | 319 => 272 | 320 => 273 | 337 => 285 | 338 => 286 | n => n, fun | 3 => 3 | 9 => 9 | 2 => 2 | 4 => 4 | 171 => 269 | 0 => 0 | 53 => 157 | 37 => 261 | 5 => 5 | 173 => 271 | 212 => 282 | 51 => 159 | 20 => 20 | 213 => 283 | 46 => 135 | 232 => 296 | 233 => 297 | n => n, fun | 17 => 4 | 18 => 5 | 19 => 6 | n => n⟩
theorem Tryz.layItoaM : Go.Proofs.LaysM.n171 Tryz.prog Tryz.layItoaM_ren := {
 mixed := by kernel_rfl
 f129 := Tryz.func145.trans (congrArg some (by kernel_rfl))
 f171 := Tryz.func148.trans (congrArg some (by kernel_rfl))
 f243 := Tryz.func204.trans (congrArg some (by kernel_rfl))
 f246 := Tryz.func234.trans (congrArg some (by kernel_rfl))
 f283 := Tryz.func255.trans (congrArg some (by kernel_rfl))
 f284 := Tryz.func256.trans (congrArg some (by kernel_rfl))
 f285 := Tryz.func257.trans (congrArg some (by kernel_rfl))
 f286 := Tryz.func258.trans (congrArg some (by kernel_rfl))
 f317 := Tryz.func270.trans (congrArg some (by kernel_rfl))
 f318 := Tryz.func271.trans (congrArg some (by kernel_rfl))
 f319 := Tryz.func272.trans (congrArg some (by kernel_rfl))
 f320 := Tryz.func273.trans (congrArg some (by kernel_rfl))
 f337 := Tryz.func285.trans (congrArg some (by kernel_rfl))
 f338 := Tryz.func286.trans (congrArg some (by kernel_rfl))
 t0 := Tryz.underlying0
 a0 := Tryz.isAgg0
 z0 := Tryz.sizeOf0
 v0 := Tryz.zeroValue0
 t2 := Tryz.underlying2
 a2 := Tryz.isAgg2
 z2 := Tryz.sizeOf2
 v2 := Tryz.zeroValue2
 t3 := Tryz.underlying3
 a3 := Tryz.isAgg3
 z3 := Tryz.sizeOf3
 v3 := Tryz.zeroValue3
 t4 := Tryz.underlying4
 a4 := Tryz.isAgg4
 z4 := Tryz.sizeOf4
 v4 := Tryz.zeroValue4
 t5 := Tryz.underlying5
 a5 := Tryz.isAgg5
 z5 := Tryz.sizeOf5
 v5 := Tryz.zeroValue5
 t9 := Tryz.underlying9
 a9 := Tryz.isAgg9
 z9 := Tryz.sizeOf9
 v9 := Tryz.zeroValue9
 t20 := Tryz.underlying20
 a20 := Tryz.isAgg20
 z20 := Tryz.sizeOf20
 v20 := Tryz.zeroValue20
 t37 := Tryz.underlying261
 a37 := Tryz.isAgg261
 z37 := Tryz.sizeOf261
 v37 := Tryz.zeroValue261
 t46 := Tryz.underlying135
 a46 := Tryz.isAgg135
 z46 := Tryz.sizeOf135
 v46 := Tryz.zeroValue135
 t51 := Tryz.underlying159
 a51 := Tryz.isAgg159
 z51 := Tryz.sizeOf159
 v51 := Tryz.zeroValue159
 t53 := Tryz.underlying157
 a53 := Tryz.isAgg157
 z53 := Tryz.sizeOf157
 v53 := Tryz.zeroValue157
 t171 := Tryz.underlying269
 a171 := Tryz.isAgg269
 z171 := Tryz.sizeOf269
 v171 := Tryz.zeroValue269
 t173 := Tryz.underlying271
 a173 := Tryz.isAgg271
 z173 := Tryz.sizeOf271
 v173 := Tryz.zeroValue271
 t212 := Tryz.underlying282
 a212 := Tryz.isAgg282
 z212 := Tryz.sizeOf282
 v212 := Tryz.zeroValue282
 t213 := Tryz.underlying283
 a213 := Tryz.isAgg283
 z213 := Tryz.sizeOf283
 t232 := Tryz.underlying296
 a232 := Tryz.isAgg296
 z232 := Tryz.sizeOf296
 v232 := Tryz.zeroValue296
 t233 := Tryz.underlying297
 a233 := Tryz.isAgg297
 z233 := Tryz.sizeOf297
 v233 := Tryz.zeroValue297
 g17 := by kernel_rfl
 g18 := by kernel_rfl
 g19 := by kernel_rfl
 i0 := by kernel_rfl
 i2 := by kernel_rfl
 i3 := by kernel_rfl
 i4 := by kernel_rfl
 i5 := by kernel_rfl
 i9 := by kernel_rfl
 i20 := by kernel_rfl
 i37 := by kernel_rfl
 i46 := by kernel_rfl
 i51 := by kernel_rfl
 i53 := by kernel_rfl
 i171 := by kernel_rfl
 i173 := by kernel_rfl
 i212 := by kernel_rfl
 i232 := by kernel_rfl
 i233 := by kernel_rfl
 m17 := by kernel_rfl
 m18 := by kernel_rfl
 m19 := by kernel_rfl }
end Go.Proofs
