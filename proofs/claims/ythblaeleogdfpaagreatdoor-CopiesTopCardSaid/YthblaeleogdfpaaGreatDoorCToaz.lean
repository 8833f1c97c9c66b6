/- Contract of the reference's Run at one operation (chapter 38). Contract of the kit's dice: Column. -/
import Derived.Test.YthblaeleogdfpaaGreatDoorCToay
import Derived.Deep.DeepCutAuto
import Derived.Deep.CutRange
import Derived.Deep.CutBlock
import Derived.Test.YthblaeleogdfpaaGreatDoorCToae
set_option linter.unusedVariables false
set_option linter.unusedSimpArgs false
namespace Go.Proofs.YthblaeleogdfpaaGreatDoor
open Go.RowKit
def RunP (w : World) (t : Ta) (o : Po) (e : Ending) (w' : World) : Prop :=
  (canL t.cols.length o = true ∧ ∃ v, e = .returned (.tuple #[.agg #[.int .i64 t.id, .string t.name, v], .int .i64 0]) ∧ CoSt w' w.heap.size 30 v (doL t.cols o) ∧ Below w.heap.size w w') ∨
  (canL t.cols.length o = false ∧ e = .returned (.tuple #[.agg #[.int .i64 0, .string ⟨#[]⟩, .slice none 0 0], .int .i64 24]) ∧ Below w.heap.size w w')
set_option maxRecDepth 100000 in
set_option maxHeartbeats 4000000 in
theorem ref38_Run1 (t : Ta) (v u : Value) (o : Po) (B lb : Nat) (w : World) (ht : TabV t) (hv : RdCo w (· < B) v t.cols) (hu : RdOp w B u o) (hB : B ≤ w.heap.size) (hT : Tabs w) (hlb : BoxN w lb 56 #[.int .i64 o.kind, .int .i64 o.col, .string o.text, u]) (htx : o.text.size ≤ 1099511627776) (hcl : o.cols.length ≤ 1048576) :
  Calls Tryz.prog 30 #[.agg #[.int .i64 t.id, .string t.name, v], .slice (some ⟨lb, 0, none⟩) 1 1] w (RunP w t o) := by
 have hxl64 : t.cols.length ≤ 64 := ht.2.2.2.1
 have hlz := hlb.lt
 have HVK := hid (fun W (hW : Below w.heap.size w W) => (hv.keep fun p (hp : p.block < B) => hW.cell (p := p) (by omega) : RdCo W (· < B) v t.cols))
 have HVL := hid (fun W (hW : Below w.heap.size w W) => ref_ValidTab t v B W ht (HVK.out W hW) (Nat.le_trans hB hW.size) (hT.below hW))
 have HCA := hid (fun W (hW : Below w.heap.size w W) => ref38_can t.id t.name v u t.cols o B W (HVK.out W hW) (hu.below hW hB) (Nat.le_trans hB hW.size) (by omega) hcl htx)
 have HDO := hid (fun W (hW : Below w.heap.size w W) (hc : canL t.cols.length o = true) => ref38_do t v u o B W ht (HVK.out W hW) (hu.below hW hB) (Nat.le_trans hB hW.size) (hT.below hW) hc htx)
 have HDV := hid (fun (hc : canL t.cols.length o = true) => do_valid ht hc)
 have HCP := hid (fun W y (hW : RdCo W (· < W.heap.size) y (doL t.cols o)) (hc : canL t.cols.length o = true) => ref38_Copy ⟨t.id, t.name, doL t.cols o⟩ y W.heap.size W hW (Nat.le_refl _) (by have := (do_valid ht hc).2.2.2.1; show (doL t.cols o).length ≤ 1048576; simp only at this; omega) (fun x hx => by
  obtain ⟨n, hn, h⟩ := (do_valid ht hc).cv
  have := (h x hx).2.1
  omega))
 obtain ⟨cv, ⟨va, vc, rfl, -, -, -⟩, -⟩ := hv
 obtain ⟨ua, uc, rfl, -, -, -⟩ := hu
 clear ht hT
 have HLB := hid hlb
 clear hlb
 cases hcan : canL t.cols.length o with
 | false =>
  unfold RunP
  rw [hcan]
  rw [hcan] at HCA
  clear HDO HDV HCP HVK hcan
  obtain ⟨id, nm, xs⟩ := t
  obtain ⟨kind, col, text, cols⟩ := o
  simp only [Po.val] at *
  generalize xs.length = L at *
  generalize cols.length = m at *
  have HX0 := hid ((BoxN.new w #[.int .i64 id, .string nm, .slice va L vc] 24).alloc (.cells #[.int .i64 0, .string ⟨#[]⟩, .slice none 0 0] 24))
  have hy0 := BoxN.new (w.alloc (.cells #[.int .i64 id, .string nm, .slice va L vc] 24)) #[.int .i64 0, .string ⟨#[]⟩, .slice none 0 0] 24
  rw [World.size_alloc] at hy0
  have HY0 := hid hy0
  have HB0 := hid (((Below.refl w.heap.size w).alloc (Nat.le_refl _) (.cells #[.int .i64 id, .string nm, .slice va L vc] 24)).alloc (by simp) (.cells #[.int .i64 0, .string ⟨#[]⟩, .slice none 0 0] 24))
  have hz0' : ((w.alloc (.cells #[.int .i64 id, .string nm, .slice va L vc] 24)).alloc (.cells #[.int .i64 0, .string ⟨#[]⟩, .slice none 0 0] 24)).heap.size = w.heap.size + 2 := by simp
  have x0 := HX0.out.cell 0 rfl
  have x1 := HX0.out.cell 1 rfl
  have x2 := HX0.out.cell 2 rfl
  clear hy0
  go_enter Tryz.func30, Tryz.ntmps30
  go_wp2_with fail
  generalize (w.alloc (.cells #[.int .i64 id, .string nm, .slice va L vc] 24)).alloc (.cells #[.int .i64 0, .string ⟨#[]⟩, .slice none 0 0] 24) = W0 at *
  with_reducible refine (HVL.out W0 HB0.out).mono ?_
  rintro e w1 ⟨rfl, hb1⟩
  have HB1 := hid (HB0.out.trans (hb1.mono (by omega)))
  have HX1 := hid (HX0.out.below hb1 HX0.out.lt)
  have HY1 := hid (HY0.out.below hb1 HY0.out.lt)
  have HL1 := hid (HLB.out.below HB1.out hlz)
  have hz1 := hb1.size
  clear x0 x1 x2 hb1 HVL
  have l0 := HL1.out.cell 0 rfl
  have l1 := HL1.out.cell 1 rfl
  have l2 := HL1.out.cell 2 rfl
  have l3 := HL1.out.cell 3 rfl
  have HX2 := hid (HX1.out.alloc (.cells #[.int .i64 kind, .int .i64 col, .string text, .slice ua m uc] 56))
  have HY2 := hid (HY1.out.alloc (.cells #[.int .i64 kind, .int .i64 col, .string text, .slice ua m uc] 56))
  have HO2 := hid (BoxN.new w1 #[.int .i64 kind, .int .i64 col, .string text, .slice ua m uc] 56)
  have HB2 := hid (HB1.out.alloc (by omega) (.cells #[.int .i64 kind, .int .i64 col, .string text, .slice ua m uc] 56))
  have hz2 : (w1.alloc (.cells #[.int .i64 kind, .int .i64 col, .string text, .slice ua m uc] 56)).heap.size = w1.heap.size + 1 := by simp
  have y0 := HX2.out.cell 0 rfl
  have y1 := HX2.out.cell 1 rfl
  have y2 := HX2.out.cell 2 rfl
  go_wp2_with fail
  refine wp_loop_rounds 2 ?_
  rw [rounds_succ]
  go_wp2_with fail
  generalize w1.alloc (.cells #[.int .i64 kind, .int .i64 col, .string text, .slice ua m uc] 56) = W2 at *
  with_reducible refine (HCA.out W2 HB2.out).mono ?_
  rintro e w3 ⟨rfl, hb3⟩
  have HB3 := hid (HB2.out.trans (hb3.mono (by omega)))
  have HX3 := hid (HX2.out.below hb3 HX2.out.lt)
  have HY3 := hid (HY2.out.below hb3 HY2.out.lt)
  have HO3 := hid (HO2.out.below hb3 HO2.out.lt)
  have hz3 := hb3.size
  clear y0 y1 y2 l0 l1 l2 l3 hb3 HCA
  have c0 := HY3.out.cell 0 rfl
  have c1 := HY3.out.cell 1 rfl
  have c2 := HY3.out.cell 2 rfl
  have f0 := HY3.out.frozen 0
  have f1 := HY3.out.frozen 1
  have f2 := HY3.out.frozen 2
  go_wp2
  refine bodyPost_ret (v := .tuple #[.agg #[.int .i64 0, .string ⟨#[]⟩, .slice none 0 0], .int .i64 24]) (by simp [results, Tryz.results30, go_sem, c0, c1, c2]) rfl (.inr ⟨trivial, rfl, by have h1 := HB3.out; repeat' (first | (with_reducible exact Below.refl _ _) | (with_reducible assumption) | (with_reducible refine below_drewN ?_) | (with_reducible refine Below.alloc ?_ ?_ _) | (with_reducible refine Below.drew ?_) | (with_reducible refine Below.setCell ?_ ?_ _) | (with_reducible refine Below.trans ?_ (Below.mono (by with_reducible assumption) ?_)) | go_size)⟩)
 | true =>
  unfold RunP
  rw [hcan]
  have HDO2 := hid (fun W (hW : Below w.heap.size w W) => HDO.out W hW hcan)
  have HCP2 := hid (fun W y hW => HCP.out W y hW hcan)
  rw [hcan] at HCA
  clear HDO HCP HVK HDV hcan
  generalize doL t.cols o = ys at *
  obtain ⟨id, nm, xs⟩ := t
  obtain ⟨kind, col, text, cols⟩ := o
  simp only [Po.val] at *
  generalize xs.length = L at *
  generalize cols.length = m at *
  have HX0 := hid ((BoxN.new w #[.int .i64 id, .string nm, .slice va L vc] 24).alloc (.cells #[.int .i64 0, .string ⟨#[]⟩, .slice none 0 0] 24))
  have hy0 := BoxN.new (w.alloc (.cells #[.int .i64 id, .string nm, .slice va L vc] 24)) #[.int .i64 0, .string ⟨#[]⟩, .slice none 0 0] 24
  rw [World.size_alloc] at hy0
  have HY0 := hid hy0
  have HB0 := hid (((Below.refl w.heap.size w).alloc (Nat.le_refl _) (.cells #[.int .i64 id, .string nm, .slice va L vc] 24)).alloc (by simp) (.cells #[.int .i64 0, .string ⟨#[]⟩, .slice none 0 0] 24))
  have hz0' : ((w.alloc (.cells #[.int .i64 id, .string nm, .slice va L vc] 24)).alloc (.cells #[.int .i64 0, .string ⟨#[]⟩, .slice none 0 0] 24)).heap.size = w.heap.size + 2 := by simp
  have x0 := HX0.out.cell 0 rfl
  have x1 := HX0.out.cell 1 rfl
  have x2 := HX0.out.cell 2 rfl
  clear hy0
  go_enter Tryz.func30, Tryz.ntmps30
  go_wp2_with fail
  generalize (w.alloc (.cells #[.int .i64 id, .string nm, .slice va L vc] 24)).alloc (.cells #[.int .i64 0, .string ⟨#[]⟩, .slice none 0 0] 24) = W0 at *
  with_reducible refine (HVL.out W0 HB0.out).mono ?_
  rintro e w1 ⟨rfl, hb1⟩
  have HB1 := hid (HB0.out.trans (hb1.mono (by omega)))
  have HX1 := hid (HX0.out.below hb1 HX0.out.lt)
  have HY1 := hid (HY0.out.below hb1 HY0.out.lt)
  have HL1 := hid (HLB.out.below HB1.out hlz)
  have hz1 := hb1.size
  clear x0 x1 x2 hb1 HVL
  have l0 := HL1.out.cell 0 rfl
  have l1 := HL1.out.cell 1 rfl
  have l2 := HL1.out.cell 2 rfl
  have l3 := HL1.out.cell 3 rfl
  have HX2 := hid (HX1.out.alloc (.cells #[.int .i64 kind, .int .i64 col, .string text, .slice ua m uc] 56))
  have HY2 := hid (HY1.out.alloc (.cells #[.int .i64 kind, .int .i64 col, .string text, .slice ua m uc] 56))
  have HO2 := hid (BoxN.new w1 #[.int .i64 kind, .int .i64 col, .string text, .slice ua m uc] 56)
  have HB2 := hid (HB1.out.alloc (by omega) (.cells #[.int .i64 kind, .int .i64 col, .string text, .slice ua m uc] 56))
  have hz2 : (w1.alloc (.cells #[.int .i64 kind, .int .i64 col, .string text, .slice ua m uc] 56)).heap.size = w1.heap.size + 1 := by simp
  have y0 := HX2.out.cell 0 rfl
  have y1 := HX2.out.cell 1 rfl
  have y2 := HX2.out.cell 2 rfl
  go_wp2_with fail
  refine wp_loop_rounds 2 ?_
  rw [rounds_succ]
  go_wp2_with fail
  generalize w1.alloc (.cells #[.int .i64 kind, .int .i64 col, .string text, .slice ua m uc] 56) = W2 at *
  with_reducible refine (HCA.out W2 HB2.out).mono ?_
  rintro e w3 ⟨rfl, hb3⟩
  have HB3 := hid (HB2.out.trans (hb3.mono (by omega)))
  have HX3 := hid (HX2.out.below hb3 HX2.out.lt)
  have HY3 := hid (HY2.out.below hb3 HY2.out.lt)
  have HO3 := hid (HO2.out.below hb3 HO2.out.lt)
  have hz3 := hb3.size
  clear y0 y1 y2 l0 l1 l2 l3 hb3 HCA
  have x0 := HX3.out.cell 0 rfl
  have x1 := HX3.out.cell 1 rfl
  have x2 := HX3.out.cell 2 rfl
  have o0 := HO3.out.cell 0 rfl
  have o1 := HO3.out.cell 1 rfl
  have o2 := HO3.out.cell 2 rfl
  have o3 := HO3.out.cell 3 rfl
  go_wp2_with fail
  with_reducible refine (HDO2.out w3 HB3.out).mono ?_
  rintro e w4 ⟨y, rfl, hrd4, hb4⟩
  have HB4 := hid (HB3.out.trans (hb4.mono (by omega)))
  have HX4 := hid (HX3.out.below hb4 HX3.out.lt)
  have HY4 := hid (HY3.out.below hb4 HY3.out.lt)
  have HRD4 := hid hrd4
  have hz4 := hb4.size
  obtain ⟨cy, ⟨ya, yc, rfl, -, -, -⟩, -⟩ := hrd4
  clear x0 x1 x2 o0 o1 o2 o3 hb4 HDO2
  have x0 := HX4.out.cell 0 rfl
  have x1 := HX4.out.cell 1 rfl
  have x2 := HX4.out.cell 2 rfl
  have g0 := HX4.out.frozen 0
  have g1 := HX4.out.frozen 1
  have g2 := HX4.out.frozen 2
  generalize hkl : ys.length = k at *
  have HKL := hid hkl
  clear hkl
  have HX5 := hid (((HX4.out.set 0 (.int .i64 id)).set 1 (.string nm)).set 2 (.slice ya k yc))
  have hne : w.heap.size ≠ w.heap.size + 1 := by omega
  have HY5 := hid (((HY4.out.other (p := ⟨w.heap.size, 0, none⟩) hne (.int .i64 id)).other (p := ⟨w.heap.size, 1, none⟩) hne (.string nm)).other (p := ⟨w.heap.size, 2, none⟩) hne (.slice ya k yc))
  have HB5 : Hid (Below w.heap.size w (((w4.setCell ⟨w.heap.size, 0, none⟩ (.int .i64 id)).setCell ⟨w.heap.size, 1, none⟩ (.string nm)).setCell ⟨w.heap.size, 2, none⟩ (.slice ya k yc))) := hid (by have h1 := HB4.out; repeat' (first | (with_reducible exact Below.refl _ _) | (with_reducible assumption) | (with_reducible refine below_drewN ?_) | (with_reducible refine Below.alloc ?_ ?_ _) | (with_reducible refine Below.drew ?_) | (with_reducible refine Below.setCell ?_ ?_ _) | (with_reducible refine Below.trans ?_ (Below.mono (by with_reducible assumption) ?_)) | go_size))
  have HRD5 : Hid (RdCo (((w4.setCell ⟨w.heap.size, 0, none⟩ (.int .i64 id)).setCell ⟨w.heap.size, 1, none⟩ (.string nm)).setCell ⟨w.heap.size, 2, none⟩ (.slice ya k yc)) (· < (((w4.setCell ⟨w.heap.size, 0, none⟩ (.int .i64 id)).setCell ⟨w.heap.size, 1, none⟩ (.string nm)).setCell ⟨w.heap.size, 2, none⟩ (.slice ya k yc)).heap.size) (.slice ya k yc) ys) := hid ((HRD4.out.keep fun p hp => by
   have hp' : p.block ≠ w.heap.size := by
    rcases hp with h | h
    ·omega
    ·have := h.1; omega
   rw [World.cell?_setCell_other _ _ _ _ (by intro e; subst e; exact hp' rfl), World.cell?_setCell_other _ _ _ _ (by intro e; subst e; exact hp' rfl), World.cell?_setCell_other _ _ _ _ (by intro e; subst e; exact hp' rfl)]).more fun b hb => by
    show b < _
    rcases hb with h | h
    ·simp; omega
    ·have := h.2; simpa using this)
  have hz5 : (((w4.setCell ⟨w.heap.size, 0, none⟩ (.int .i64 id)).setCell ⟨w.heap.size, 1, none⟩ (.string nm)).setCell ⟨w.heap.size, 2, none⟩ (.slice ya k yc)).heap.size = w4.heap.size := by simp
  go_wp2_with fail
  generalize ((w4.setCell ⟨w.heap.size, 0, none⟩ (.int .i64 id)).setCell ⟨w.heap.size, 1, none⟩ (.string nm)).setCell ⟨w.heap.size, 2, none⟩ (.slice ya k yc) = W5 at *
  clear x0 x1 x2 g0 g1 g2
  have x0 := HX5.out.cell 0 rfl
  have x1 := HX5.out.cell 1 rfl
  have x2 := HX5.out.cell 2 rfl
  rw [rounds_succ]
  go_wp2_with fail
  with_reducible refine (HCP2.out W5 _ HRD5.out).mono ?_
  rintro e w6 ⟨z, rfl, hco, hb6⟩
  have HB6 := hid (HB5.out.trans (hb6.mono (by omega)))
  have HY6 := hid (HY5.out.below hb6 HY5.out.lt)
  have hz6 := hb6.size
  have HCO := hid hco
  obtain ⟨L0, hL0⟩ := hco.owns
  rw [HKL.out] at hL0
  obtain ⟨za, zc, rfl⟩ := own_slice hL0
  clear hb6 x0 x1 x2 hco hL0 HCP2
  have c0 := HY6.out.cell 0 rfl
  have c1 := HY6.out.cell 1 rfl
  have c2 := HY6.out.cell 2 rfl
  have f0 := HY6.out.frozen 0
  have f1 := HY6.out.frozen 1
  have f2 := HY6.out.frozen 2
  go_wp2
  refine bodyPost_ret (v := .tuple #[.agg #[.int .i64 id, .string nm, .slice za k zc], .int .i64 0]) (by simp [results, Tryz.results30, go_sem, c0, c1, c2]) rfl (.inl ⟨trivial, _, rfl, ?_, by have h1 := HB6.out; repeat' (first | (with_reducible exact Below.refl _ _) | (with_reducible assumption) | (with_reducible refine below_drewN ?_) | (with_reducible refine Below.alloc ?_ ?_ _) | (with_reducible refine Below.drew ?_) | (with_reducible refine Below.setCell ?_ ?_ _) | (with_reducible refine Below.trans ?_ (Below.mono (by with_reducible assumption) ?_)) | go_size)⟩)
  exact (((HCO.out.setCell (p := ⟨w.heap.size + 1, 0, none⟩) (by show w.heap.size + 1 < W5.heap.size; omega) _).setCell (p := ⟨w.heap.size + 1, 1, none⟩) (by show w.heap.size + 1 < W5.heap.size; omega) _).setCell (p := ⟨w.heap.size + 1, 2, none⟩) (by show w.heap.size + 1 < W5.heap.size; omega) _).lower (by omega)
end Go.Proofs.YthblaeleogdfpaaGreatDoor

namespace Go.Proofs.YthblaeleogdfpaaGreatDoor
open Go.RowKit
def kcolNames : List ByteArray := [⟨#[105, 100]⟩, ⟨#[110, 97, 109, 101]⟩, ⟨#[85, 110, 105, 116, 32, 80, 114, 105, 99, 101]⟩, ⟨#[99, 105, 116, 121]⟩, ⟨#[117, 110, 105, 116]⟩, ⟨#[112, 114, 105, 99, 101]⟩, ⟨#[105, 100, 50]⟩, ⟨#[]⟩]
theorem kcolNames_ok : ∀ x ∈ kcolNames, TextOk 10 x := by unfold TextOk; decide +kernel
def KColOk (n : Nat) (x : Co) : Prop := x.name ∈ kcolNames ∧ x.cells.length = n ∧ ∀ c ∈ x.cells, CellOk c
def KCol (w : World) (g n : Nat) (e : Ending) (w' : World) : Prop :=
  ∃ (x : Co) (v : Value), e = .returned (.agg #[.string x.name, v]) ∧ KColOk n x ∧ RdCl w' (News w w') v x.cells ∧ KDice w' g ∧ Roll w.heap.size g w w'
def abcdTexts : List ByteArray := [⟨#[97]⟩, ⟨#[98]⟩, ⟨#[99]⟩, ⟨#[100]⟩]
theorem abcd_ok : ∀ x ∈ abcdTexts, TextOk 8 x := by unfold TextOk; decide +kernel
theorem kTexts_ok : ∀ i : Fin 12, TextOk 8 ((⟨#[107]⟩ : ByteArray) ++ ⟨(Lib.itoa (i : Int)).toArray⟩) := by unfold TextOk; decide +kernel
structure KColSt (w0 ws w : World) (g cb base n : Nat) (nm : ByteArray) (v : Value) (cs : List Cl) : Prop where
  box : BoxN w cb 30 #[.string nm, v]
  own : w.ownsRow base 104 2 v cs.length (flatK 2 cs.length (clF cs))
  ok : ∀ c ∈ cs, CellOk c
  dice : KDice w g
  roll : Roll w0.heap.size g w0 w
  low : base ≤ w.heap.size
  keep : ∀ k, k < base → k ≠ g → k ≠ cb → w.heap[k]? = ws.heap[k]?
section
variable {w0 ws w w' : World} {g cb base n : Nat} {nm : ByteArray} {v : Value} {cs : List Cl}
theorem KColSt.rolled (h : KColSt w0 ws w g cb base n nm v cs) (hr : Roll w.heap.size g w w') (hd : KDice w' g) (hg : g < base) (hne : cb ≠ g) : KColSt w0 ws w' g cb base n nm v cs :=
 ⟨h.box.roll hr h.box.lt hne, own_roll h.own hr (Nat.le_refl _) hg, h.ok, hd, h.roll.trans (hr.mono h.roll.size), Nat.le_trans h.low hr.size, fun k h1 h2 h3 => (hr.block k (Nat.lt_of_lt_of_le h1 h.low) h2).trans (h.keep k h1 h2 h3)⟩
theorem KColSt.alloc (h : KColSt w0 ws w g cb base n nm v cs) (hg : g < base) (hne : cb ≠ g) (O : Obj) : KColSt w0 ws (w.alloc O) g cb base n nm v cs :=
 h.rolled ((Roll.refl _ _ _).alloc (Nat.le_refl _) O) (h.dice.alloc O) hg hne
theorem KColSt.store (h : KColSt w0 ws w g cb base n nm v cs) {p : Addr} (hp : base ≤ p.block) (hv : v.ownBlock ≠ some p.block) (hcb : cb < base) (hc0 : w0.heap.size ≤ cb) (hg : g < base) (u : Value) : KColSt w0 ws (w.setCell p u) g cb base n nm v cs :=
 ⟨h.box.other (by omega) u, ownsRow_setCell_other h.own hv u, h.ok, h.dice.store (by omega) u, h.roll.trans ⟨rfl, rfl, rfl, by simp, fun k hk _ => Below.heap_setCell _ _ _ _ (by omega)⟩, by simpa using h.low, fun k h1 h2 h3 => (Below.heap_setCell _ _ _ _ (by omega)).trans (h.keep k h1 h2 h3)⟩
theorem KColSt.push (h : KColSt w0 ws w g cb base n nm v cs) {c : Cl} (hc : CellOk c) {p m cap : Nat} (hm : m = cs.length + 1)
  (hown : w'.ownsRow base 104 2 (.slice (some ⟨p, 0, none⟩) m cap) m (flatK 2 cs.length (clF cs) ++ [.bool c.null, .string c.text])) (hgr : w.grownBy w' v.ownBlock) (hcb : cb < base) (hc0 : w0.heap.size ≤ cb) (hg : g < cb) :
  KColSt w0 ws (w'.setCell ⟨cb, 1, none⟩ (.slice (some ⟨p, 0, none⟩) m cap)) g cb base n nm (.slice (some ⟨p, 0, none⟩) m cap) (cs ++ [c]) := by
 have hv : ∀ k, v.ownBlock = some k → base ≤ k := fun k hk => (h.own.lt k hk).1
 have hlo := h.low
 have hx : ∀ k, k < base → w'.heap[k]? = w.heap[k]? := fun k hk => hgr.block k (by omega) (fun e => by have := hv k e.symm; omega)
 subst hm
 refine ⟨(show BoxN w' cb _ _ from (hx cb hcb).trans h.box).set 1 _, ?_, ?_, (h.dice.keep fun k hk => hx k (by omega)).store hg _, ?_, by have := hgr.size; simp; omega, fun k h1 h2 h3 => (Below.heap_setCell _ _ _ _ h3).trans ((hx k h1).trans (h.keep k h1 h2 h3))⟩
 ·rw [← cl_push, List.length_append, List.length_singleton]
  exact ownsRow_setCell_below hown hcb _
 ·intro x hxm
  rcases List.mem_append.1 hxm with h1 | h1
  ·exact h.ok x h1
  ·rw [List.mem_singleton.1 h1]; exact hc
 ·exact h.roll.trans ⟨hgr.os, hgr.tape, hgr.output, by have := hgr.size; simpa using this, fun k hk hkg => (Below.heap_setCell _ _ _ _ (by show k ≠ cb; omega)).trans (hx k (by omega))⟩
end
section
variable {w0 ws w w' : World} {g cb base n : Nat} {nm : ByteArray} {v : Value} {cs : List Cl}
theorem KColSt.below (h : KColSt w0 ws w g cb base n nm v cs) (hb : Below w.heap.size w w') (hg : g < base) (hne : cb ≠ g) : KColSt w0 ws w' g cb base n nm v cs :=
 h.rolled (Roll.of_below hb g) (h.dice.below hb h.dice.lt) hg hne
end
set_option maxRecDepth 100000 in
set_option maxHeartbeats 2000000 in
theorem kit_Column (g n : Nat) (w : World) (hd : KDice w g) (hn : n ≤ 11) :
  Calls Tryz.prog 45 #[.pointer (some ⟨g, 0, none⟩), .int .i64 (n : Int)] w (KCol w g n) := by
 have hgl := hd.lt
 have HD := hid hd
 obtain ⟨i0, hi, hz0, hz1, hz2⟩ := info_parts info_cell
 clear hd
 go_enter Tryz.func45, Tryz.ntmps45
 generalize hLA : Code.loop _ = LA
 go_wp2_with fail
 have hd0 := (HD.out.alloc (.cells #[.string ⟨#[]⟩, .slice none 0 0] 30)).alloc (.cells #[.string ⟨#[105, 100]⟩, .string ⟨#[110, 97, 109, 101]⟩, .string ⟨#[85, 110, 105, 116, 32, 80, 114, 105, 99, 101]⟩, .string ⟨#[99, 105, 116, 121]⟩, .string ⟨#[117, 110, 105, 116]⟩, .string ⟨#[112, 114, 105, 99, 101]⟩, .string ⟨#[105, 100, 50]⟩, .string ⟨#[]⟩] 9)
 have hr0 := ((Roll.refl w.heap.size g w).alloc (Nat.le_refl _) (.cells #[.string ⟨#[]⟩, .slice none 0 0] 30)).alloc (by simp) (.cells #[.string ⟨#[105, 100]⟩, .string ⟨#[110, 97, 109, 101]⟩, .string ⟨#[85, 110, 105, 116, 32, 80, 114, 105, 99, 101]⟩, .string ⟨#[99, 105, 116, 121]⟩, .string ⟨#[117, 110, 105, 116]⟩, .string ⟨#[112, 114, 105, 99, 101]⟩, .string ⟨#[105, 100, 50]⟩, .string ⟨#[]⟩] 9)
 have hb0 := (BoxN.new w #[.string ⟨#[]⟩, .slice none 0 0] 30).alloc (.cells #[.string ⟨#[105, 100]⟩, .string ⟨#[110, 97, 109, 101]⟩, .string ⟨#[85, 110, 105, 116, 32, 80, 114, 105, 99, 101]⟩, .string ⟨#[99, 105, 116, 121]⟩, .string ⟨#[117, 110, 105, 116]⟩, .string ⟨#[112, 114, 105, 99, 101]⟩, .string ⟨#[105, 100, 50]⟩, .string ⟨#[]⟩] 9)
 have hn0 := BoxN.new (w.alloc (.cells #[.string ⟨#[]⟩, .slice none 0 0] 30)) #[.string ⟨#[105, 100]⟩, .string ⟨#[110, 97, 109, 101]⟩, .string ⟨#[85, 110, 105, 116, 32, 80, 114, 105, 99, 101]⟩, .string ⟨#[99, 105, 116, 121]⟩, .string ⟨#[117, 110, 105, 116]⟩, .string ⟨#[112, 114, 105, 99, 101]⟩, .string ⟨#[105, 100, 50]⟩, .string ⟨#[]⟩] 9
 have hz0' : ((w.alloc (.cells #[.string ⟨#[]⟩, .slice none 0 0] 30)).alloc (.cells #[.string ⟨#[105, 100]⟩, .string ⟨#[110, 97, 109, 101]⟩, .string ⟨#[85, 110, 105, 116, 32, 80, 114, 105, 99, 101]⟩, .string ⟨#[99, 105, 116, 121]⟩, .string ⟨#[117, 110, 105, 116]⟩, .string ⟨#[112, 114, 105, 99, 101]⟩, .string ⟨#[105, 100, 50]⟩, .string ⟨#[]⟩] 9)).heap.size = w.heap.size + 2 := by simp
 simp only [World.size_alloc] at hn0
 have hn1 : BoxN ((w.alloc (.cells #[.string ⟨#[]⟩, .slice none 0 0] 30)).alloc (.cells #[.string ⟨#[105, 100]⟩, .string ⟨#[110, 97, 109, 101]⟩, .string ⟨#[85, 110, 105, 116, 32, 80, 114, 105, 99, 101]⟩, .string ⟨#[99, 105, 116, 121]⟩, .string ⟨#[117, 110, 105, 116]⟩, .string ⟨#[112, 114, 105, 99, 101]⟩, .string ⟨#[105, 100, 50]⟩, .string ⟨#[]⟩] 9)) (w.heap.size + 1) 9 (kcolNames.map Value.string).toArray := hn0
 with_reducible refine (kit_Word g (w.heap.size + 1) 8 kcolNames _ hd0 hn1 (by omega) rfl (by omega) (by omega)).mono ?_
 clear hd0 hn0 hn1
 generalize ((w.alloc (.cells #[.string ⟨#[]⟩, .slice none 0 0] 30)).alloc (.cells #[.string ⟨#[105, 100]⟩, .string ⟨#[110, 97, 109, 101]⟩, .string ⟨#[85, 110, 105, 116, 32, 80, 114, 105, 99, 101]⟩, .string ⟨#[99, 105, 116, 121]⟩, .string ⟨#[117, 110, 105, 116]⟩, .string ⟨#[112, 114, 105, 99, 101]⟩, .string ⟨#[105, 100, 50]⟩, .string ⟨#[]⟩] 9)) = W0 at *
 rintro e w1 ⟨nm, rfl, hnm, hd1, hr1, hs1⟩
 have HB1 := hid (hb0.roll hr1 (by omega) (by omega))
 have HR1 := hid (hr0.trans (hr1.mono (by omega)))
 have HD1 := hid hd1
 have HNM := hid hnm
 clear hb0 hr0 hr1 hd1 hnm
 go_wp2_with fail
 have hd2 := HD1.out.alloc (.cells #[.string nm, .slice none 0 0] 30)
 have hr2 := HR1.out.alloc (by omega) (.cells #[.string nm, .slice none 0 0] 30)
 have hb2 := HB1.out.alloc (.cells #[.string nm, .slice none 0 0] 30)
 have hc2 := BoxN.new w1 #[.string nm, .slice none 0 0] 30
 have hz2' : (w1.alloc (.cells #[.string nm, .slice none 0 0] 30)).heap.size = w1.heap.size + 1 := by simp
 with_reducible refine (kit_Next g _ _ hd2 (by omega) (by omega)).mono ?_
 clear hd2
 generalize (w1.alloc (.cells #[.string nm, .slice none 0 0] 30)) = W1 at *
 rintro e w2 ⟨k, rfl, hk, hd2, hr2', hs2⟩
 have HB2 := hid (hb2.roll hr2' (by omega) (by omega))
 have hcb : w1.heap.size = w.heap.size + 2 := by omega
 have HC2 := hid (hc2.roll hr2' (by omega) (by omega))
 rw [hcb] at HC2
 have HR2 := hid (hr2.trans (hr2'.mono (by omega)))
 have HD2 := hid hd2
 clear hb2 hc2 hr2 hr2' hd2 hcb
 go_wp2_with fail
 subst hLA
 go_loopg [16] n (fun N i wr => ∃ (v : Value) (cs : List Cl), i = .int .i64 (cs.length : Int) ∧ cs.length + N = n ∧ Hid (KColSt w w2 wr g (w.heap.size + 2) w2.heap.size n nm v cs))
 case atStart => exact ⟨.slice none 0 0, [], rfl, by simp, hid ⟨HC2.out, World.ownsRow_nil _ _ _ _, by simp, HD2.out, HR2.out, Nat.le_refl _, fun _ _ _ _ => rfl⟩⟩
 case round =>
  obtain ⟨v, cs, rfl, hl, HST⟩ := hrel
  obtain ⟨va, vc, rfl⟩ := own_slice HST.out.own
  have hcz := HC2.out.lt
  generalize hbs : w2.heap.size = base at *
  have HBS := hid hbs
  clear hbs
  generalize hcl : cs.length = L at *
  have HCL := hid hcl
  clear hcl
  by_cases hp : 0 < gk
  ·have hlt : (L : Int) < n := by omega
   go_wp2_with fail
   with_reducible refine (kit_Cell g _ HST.out.dice).mono ?_
   rintro e w3 ⟨⟨nl, tx⟩, rfl, hok, hd3, hr3⟩
   have HST3 := hid (HST.out.rolled hr3 hd3 (by omega) (by omega))
   have HOK := hid hok
   clear hd3 hr3 hok
   have hlo3 := HST3.out.low
   go_upto_block 2 with fail
   go_cut [8] from 17 to 44 (fun s8 wx => s8 = .pointer (some ⟨w3.heap.size, 0, none⟩) ∧ ∃ c : Cl, Hid (CellOk c ∧ BoxN wx w3.heap.size 104 #[.bool c.null, .string c.text] ∧ KColSt w w2 wx g (w.heap.size + 2) base n nm (.slice va L vc) cs))
   case first =>
    have hst4 := HST3.out.alloc (by omega) (by omega) (.cells #[.bool nl, .string tx] 104)
    have hx4 := BoxN.new w3 #[.bool nl, .string tx] 104
    have hz4 : (w3.alloc (.cells #[.bool nl, .string tx] 104)).heap.size = w3.heap.size + 1 := by simp
    generalize w3.alloc (.cells #[.bool nl, .string tx] 104) = W4 at *
    have HST4 := hid hst4
    have HX4 := hid hx4
    have hgl3 := HST3.out.dice.lt
    clear hst4 hx4
    have hne4 : ∀ b, (Value.slice va L vc).ownBlock = some b → b ≠ w3.heap.size := fun b hb e => by have := (HST3.out.own.lt b hb).2; omega
    by_cases h0 : k = 0
    ·subst h0
     go_wp2_with fail
     with_reducible refine (kit_Number g _ HST4.out.dice).mono ?_
     rintro e w5 ⟨⟨nl5, tx5⟩, rfl, hok5, hd5, hr5⟩
     have HST5 := hid (HST4.out.rolled hr5 hd5 (by omega) (by omega))
     have HX5 := hid (HX4.out.roll hr5 (by omega) (by omega))
     have HOK5 := hid hok5
     clear hd5 hr5 hok5
     have d0 := HX5.out.cell 0 rfl
     have d1 := HX5.out.cell 1 rfl
     have fd0 := HX5.out.frozen 0
     have fd1 := HX5.out.frozen 1
     go_wp2_with fail
     go_meet
     have h5 := HST5.out.store (p := ⟨w3.heap.size, 0, none⟩) hlo3 (fun e => hne4 _ e rfl) (by omega) (by omega) (by omega) (.bool nl5)
     exact ⟨rfl, ⟨nl5, tx5⟩, hid ⟨HOK5.out, (HX5.out.set 0 _).set 1 _, h5.store (p := ⟨w3.heap.size, 1, none⟩) hlo3 (fun e => hne4 _ e rfl) (by omega) (by omega) (by omega) (.string tx5)⟩⟩
    ·have hk0 : ((k : Int) == 0) = false := by simp; omega
     have hk0' : ¬ (k : Int) = 0 := by omega
     by_cases h1 : k = 1
     ·subst h1
      go_wp2_with fail
      with_reducible refine (kit_itoa (L : Int) (by omega) (by omega) _ HST4.out.dice.pow).mono ?_
      rintro e w5 ⟨rfl, hb5⟩
      have HST5 := hid (HST4.out.below hb5 (by omega) (by omega))
      have HX5 := hid (HX4.out.below hb5 HX4.out.lt)
      have HOK5 : Hid (CellOk ⟨false, (⟨#[107]⟩ : ByteArray) ++ ⟨(Lib.itoa (L : Int)).toArray⟩⟩) := hid (cellOk_text (kTexts_ok ⟨L, by omega⟩))
      clear hb5
      have d0 := HX5.out.cell 0 rfl
      have d1 := HX5.out.cell 1 rfl
      have fd0 := HX5.out.frozen 0
      have fd1 := HX5.out.frozen 1
      have hsz := HOK5.out.2.1
      generalize (⟨(Lib.itoa (L : Int)).toArray⟩ : ByteArray) = s at *
      have hss : ¬ (9223372036854775807 < (1 : Nat) + s.size) := by
       rw [ByteArray.size_append] at hsz
       have : (⟨#[107]⟩ : ByteArray).size = 1 := rfl
       omega
      go_wp2_with fail
      go_meet
      have h5 := HST5.out.store (p := ⟨w3.heap.size, 0, none⟩) hlo3 (fun e => hne4 _ e rfl) (by omega) (by omega) (by omega) (.bool false)
      exact ⟨rfl, ⟨false, _⟩, hid ⟨HOK5.out, (HX5.out.set 0 _).set 1 _, h5.store (p := ⟨w3.heap.size, 1, none⟩) hlo3 (fun e => hne4 _ e rfl) (by omega) (by omega) (by omega) (.string _)⟩⟩
     ·have hk1 : ((k : Int) == 1) = false := by simp; omega
      have hk1' : ¬ (k : Int) = 1 := by omega
      by_cases h2 : k = 2
      ·subst h2
       go_wp2_with fail
       have hd5 := HST4.out.dice.alloc (.cells #[.string ⟨#[97]⟩, .string ⟨#[98]⟩, .string ⟨#[99]⟩, .string ⟨#[100]⟩] 9)
       have hst5 := HST4.out.alloc (by omega) (by omega) (.cells #[.string ⟨#[97]⟩, .string ⟨#[98]⟩, .string ⟨#[99]⟩, .string ⟨#[100]⟩] 9)
       have hx5 := HX4.out.alloc (.cells #[.string ⟨#[97]⟩, .string ⟨#[98]⟩, .string ⟨#[99]⟩, .string ⟨#[100]⟩] 9)
       have hw5 : BoxN (W4.alloc (.cells #[.string ⟨#[97]⟩, .string ⟨#[98]⟩, .string ⟨#[99]⟩, .string ⟨#[100]⟩] 9)) (w3.heap.size + 1) 9 (abcdTexts.map Value.string).toArray := by have h := BoxN.new W4 #[.string ⟨#[97]⟩, .string ⟨#[98]⟩, .string ⟨#[99]⟩, .string ⟨#[100]⟩] 9; rw [hz4] at h; exact h
       have hz5 : (W4.alloc (.cells #[.string ⟨#[97]⟩, .string ⟨#[98]⟩, .string ⟨#[99]⟩, .string ⟨#[100]⟩] 9)).heap.size = W4.heap.size + 1 := by simp
       with_reducible refine (kit_Word g (w3.heap.size + 1) 4 abcdTexts _ hd5 hw5 (by omega) rfl (by omega) (by omega)).mono ?_
       clear hd5 hw5
       generalize (W4.alloc (.cells #[.string ⟨#[97]⟩, .string ⟨#[98]⟩, .string ⟨#[99]⟩, .string ⟨#[100]⟩] 9)) = W5 at *
       rintro e w6 ⟨s, rfl, hs, hd6, hr6, hs6⟩
       have HST6 := hid (hst5.rolled hr6 hd6 (by omega) (by omega))
       have HX6 := hid (hx5.roll hr6 (by omega) (by omega))
       have HOK6 := hid (abcd_ok _ hs)
       clear hst5 hx5 hs hd6 hr6
       have d0 := HX6.out.cell 0 rfl
       have d1 := HX6.out.cell 1 rfl
       have fd0 := HX6.out.frozen 0
       have fd1 := HX6.out.frozen 1
       go_wp2_with fail
       go_meet
       have h5 := HST6.out.store (p := ⟨w3.heap.size, 0, none⟩) hlo3 (fun e => hne4 _ e rfl) (by omega) (by omega) (by omega) (.bool false)
       exact ⟨rfl, ⟨false, s⟩, hid ⟨cellOk_text HOK6.out, (HX6.out.set 0 _).set 1 _, h5.store (p := ⟨w3.heap.size, 1, none⟩) hlo3 (fun e => hne4 _ e rfl) (by omega) (by omega) (by omega) (.string s)⟩⟩
      ·have hk2 : ((k : Int) == 2) = false := by simp; omega
       have hk2' : ¬ (k : Int) = 2 := by omega
       go_wp2_with fail
       go_meet
       exact ⟨rfl, ⟨nl, tx⟩, hid ⟨HOK.out, HX4.out, HST4.out⟩⟩
   case rest =>
    obtain ⟨rfl, ⟨cn, ct⟩, HC⟩ := hcut
    obtain ⟨W5, rfl⟩ : ∃ W5, W5 = wc := ⟨wc, rfl⟩
    have HST5 := hid HC.out.2.2
    have HX5 := hid HC.out.2.1
    have s0 := HX5.out.cell 0 rfl
    have s1 := HX5.out.cell 1 rfl
    have s2 := HST5.out.box.cell 1 rfl
    have HOWN : Hid (W5.ownsRow base 104 2 (.slice va L vc) L (flatK 2 cs.length (clF cs))) := hid (by have := HST5.out.own; rw [HCL.out] at this; rw [HCL.out]; exact this)
    have HOB := hid (HST5.out.own.lt)
    have hlo := HST5.out.low
    have hcb5 := HST5.out.box.lt
    go_wp2_with (at_builtin; refine wpList_append_form _ rfl _ _ 28 28 rfl base 104 104 i0 (.agg #[.bool false, .string ⟨#[]⟩]) 2 24 Tryz.underlying28 Tryz.underlying28 hi hz0 hz1 hz2 rfl (by decide) (.slice va L vc) L (flatK 2 cs.length (clF cs)) rfl (HOWN.out.alloc _) (some ⟨_, 0, none⟩) 1 1 [.bool cn, .string ct] rfl rfl (fun _ => ⟨_, rfl, cell_two_at _ _ _ (by simp)⟩) (by intro u hu; simp at hu; rcases hu with rfl | rfl <;> rfl) (by omega) (by unfold maxLen; omega) (by omega) (by simp; omega) ?_; intro p7 cap7 w7 hown7 hg7 hat7 hlt7; have hbx7 := (HST5.out.box.alloc (.cells #[.bool cn, .string ct] 104)).grown hg7 (fun e => by have := HOB.out _ e.symm; omega); have q1 := hbx7.cell 1 rfl; have fq1 := hbx7.frozen 1; have HG7 := hid ((World.grownBy_alloc _ (.cells #[.bool cn, .string ct] 104) _).trans hg7); have HOWN7 := hid hown7; clear hown7 hg7 hat7 hbx7)
    go_wp2
    go_roundg (gk - 1)
    case rel => exact ⟨_, cs ++ [⟨cn, ct⟩], by rw [List.length_append, List.length_singleton, HCL.out]; go_num, by rw [List.length_append, List.length_singleton, HCL.out]; omega, hid (HST5.out.push (c := ⟨cn, ct⟩) HC.out.1 (by rw [HCL.out]) HOWN7.out HG7.out (by omega) (by omega) (by omega))⟩
    case measure => omega
  ·obtain rfl : gk = 0 := by omega
   have hbz := HB2.out.lt
   have hb0 : BoxN wr w.heap.size 30 #[.string ⟨#[]⟩, .slice none 0 0] := (HST.out.keep w.heap.size (by have := HBS.out; omega) (by omega) (by omega)).trans HB2.out
   have c0 := hb0.cell 0 rfl
   have c1 := hb0.cell 1 rfl
   have f0 := hb0.frozen 0
   have f1 := hb0.frozen 1
   have e0 := HST.out.box.cell 0 rfl
   have e1 := HST.out.box.cell 1 rfl
   clear hb0
   go_wp2
   refine bodyPost_ret (by simp [results, Tryz.results45, go_sem, c0, c1]; rfl) rfl ?_
   have hbw : Below w.heap.size wr ((wr.setCell ⟨w.heap.size, 0, none⟩ (.string nm)).setCell ⟨w.heap.size, 1, none⟩ (.slice va L vc)) := by
    have := Below.refl w.heap.size wr
    repeat' (first | (with_reducible exact Below.refl _ _) | (with_reducible assumption) | (with_reducible refine below_drewN ?_) | (with_reducible refine Below.alloc ?_ ?_ _) | (with_reducible refine Below.drew ?_) | (with_reducible refine Below.setCell ?_ ?_ _) | (with_reducible refine Below.trans ?_ (Below.mono (by with_reducible assumption) ?_)) | go_size)
   have hcl : ∀ p : Addr, base ≤ p.block ∧ p.block < wr.heap.size → ((wr.setCell ⟨w.heap.size, 0, none⟩ (.string nm)).setCell ⟨w.heap.size, 1, none⟩ (.slice va L vc)).cell? p = wr.cell? p := fun p hp => by
    have := HBS.out
    rw [World.cell?_setCell_other _ _ _ _ (by intro e; subst e; simp at hp; omega), World.cell?_setCell_other _ _ _ _ (by intro e; subst e; simp at hp; omega)]
   refine ⟨⟨nm, cs⟩, _, rfl, ⟨HNM.out, (by have := HCL.out; show cs.length = n; omega), HST.out.ok⟩, ?_, HST.out.dice.below hbw hgl, HST.out.roll.trans (Roll.of_below hbw g)⟩
   have hrd := rdCl_of_own HST.out.own
   first | rw [HCL.out] at hrd | skip
   exact (hrd.keep hcl).more fun b hb => ⟨by have := HBS.out; omega, by simpa using hb.2⟩
end Go.Proofs.YthblaeleogdfpaaGreatDoor
