/- The reference's Int, Zero, Less at fractions that are not negative; boxes with fractions. Contracts of copies.Common, copies.Score and the reference's Score at any tables. PRINTED by wip/tools/gen_rwi.py. Contract of the reference's SameInts at equal lists of ints. -/
import Derived.Test.YthblaeleogdfpaaGreatDoorCPaay
import Derived.Test.YthblaeleogdfpaaGreatDoorCPabd
import Derived.Lib.MinMax
import Derived.Test.YthblaeleogdfpaaGreatDoorCPaae
import Derived.Test.YthblaeleogdfpaaGreatDoorCPaas
import Derived.Test.YthblaeleogdfpaaGreatDoorCPaab
set_option linter.unusedVariables false
set_option linter.unusedSimpArgs false
namespace Go.Proofs.YthblaeleogdfpaaGreatDoor.Fr
open Go.RowKit
set_option maxRecDepth 100000 in
set_option maxHeartbeats 1000000 in
theorem ref_Int (n : Nat) (w : World) (hn : n < 9223372036854775808) : Calls Tryz.prog 36 #[.int .i64 (n : Int)] w (GivesF w false n 1) := by
  have HPA := hid (fun W => ref_Part n 1 W hn (by omega) (by omega))
  simp only [Nat.gcd_one_right, Nat.div_one, Nat.div_self (show 0 < 1 by omega)] at HPA
  go_enter Tryz.func36, Tryz.ntmps36
  go_wp2_with fail
  refine (HPA.out _).mono ?_
  rintro e w3 ⟨a3, c3, a4, c4, rfl, hN, hb3⟩
  have HN := hid hN
  have HB3 := hid hb3
  have hz3 := hb3.size
  have m0 := cell_later hb3 (a := ⟨w.heap.size, 0, none⟩) (v := .bool false) (by go_cell)
  have m1 := cell_later hb3 (a := ⟨w.heap.size, 1, none⟩) (v := .slice none 0 0) (by go_cell)
  have m2 := cell_later hb3 (a := ⟨w.heap.size, 2, none⟩) (v := .bool false) (by go_cell)
  have m3 := cell_later hb3 (a := ⟨w.heap.size, 3, none⟩) (v := .slice none 0 0) (by go_cell)
  have fm0 := frozen_later hb3 (a := ⟨w.heap.size, 0, none⟩) (v := .bool false) (by go_cell) (by simp [go_sem])
  have fm1 := frozen_later hb3 (a := ⟨w.heap.size, 1, none⟩) (v := .slice none 0 0) (by go_cell) (by simp [go_sem])
  have fm2 := frozen_later hb3 (a := ⟨w.heap.size, 2, none⟩) (v := .bool false) (by go_cell) (by simp [go_sem])
  have fm3 := frozen_later hb3 (a := ⟨w.heap.size, 3, none⟩) (v := .slice none 0 0) (by go_cell) (by simp [go_sem])
  clear hN hb3
  simp at hz3
  have hlt : w.heap.size < w3.heap.size := by omega
  have hne : w.heap.size ≠ w3.heap.size := by omega
  go_wp2
  refine bodyPost_ret (by simp [results, Tryz.results36, go_sem, m0, m1, m2, m3, hne, hlt]; rfl) rfl ?_
  exact ⟨a3, c3, a4, c4, by first | rfl | simp, (((((HN.out.setCell (by simp)).setCell (by simp)).setCell (by simp)).setCell (by simp))).mono (by simp), by have h3 := HB3.out; repeat' (first | (with_reducible exact Below.refl _ _) | (with_reducible assumption) | (with_reducible refine below_drewN ?_) | (with_reducible refine Below.alloc ?_ ?_ _) | (with_reducible refine Below.drew ?_) | (with_reducible refine Below.setCell ?_ ?_ _) | (with_reducible refine Below.trans ?_ (Below.mono (by with_reducible assumption) ?_)) | go_size)⟩
set_option maxRecDepth 100000 in
set_option maxHeartbeats 1000000 in
theorem ref_Zero (w : World) : Calls Tryz.prog 35 #[] w (GivesF w false 0 1) := by
  have HPA := hid (fun W => ref_Int 0 W (by omega))
  go_enter Tryz.func35, Tryz.ntmps35
  go_wp2_with fail
  refine (HPA.out _).mono ?_
  rintro e w3 ⟨a3, c3, a4, c4, rfl, hN, hb3⟩
  have HN := hid hN
  have HB3 := hid hb3
  have hz3 := hb3.size
  have m0 := cell_later hb3 (a := ⟨w.heap.size, 0, none⟩) (v := .bool false) (by go_cell)
  have m1 := cell_later hb3 (a := ⟨w.heap.size, 1, none⟩) (v := .slice none 0 0) (by go_cell)
  have m2 := cell_later hb3 (a := ⟨w.heap.size, 2, none⟩) (v := .bool false) (by go_cell)
  have m3 := cell_later hb3 (a := ⟨w.heap.size, 3, none⟩) (v := .slice none 0 0) (by go_cell)
  have fm0 := frozen_later hb3 (a := ⟨w.heap.size, 0, none⟩) (v := .bool false) (by go_cell) (by simp [go_sem])
  have fm1 := frozen_later hb3 (a := ⟨w.heap.size, 1, none⟩) (v := .slice none 0 0) (by go_cell) (by simp [go_sem])
  have fm2 := frozen_later hb3 (a := ⟨w.heap.size, 2, none⟩) (v := .bool false) (by go_cell) (by simp [go_sem])
  have fm3 := frozen_later hb3 (a := ⟨w.heap.size, 3, none⟩) (v := .slice none 0 0) (by go_cell) (by simp [go_sem])
  clear hN hb3
  simp at hz3
  have hlt : w.heap.size < w3.heap.size := by omega
  have hne : w.heap.size ≠ w3.heap.size := by omega
  go_wp2
  refine bodyPost_ret (by simp [results, Tryz.results35, go_sem, m0, m1, m2, m3, hne, hlt]; rfl) rfl ?_
  exact ⟨a3, c3, a4, c4, by first | rfl | simp, (((((HN.out.setCell (by simp)).setCell (by simp)).setCell (by simp)).setCell (by simp))).mono (by simp), by have h3 := HB3.out; repeat' (first | (with_reducible exact Below.refl _ _) | (with_reducible assumption) | (with_reducible refine below_drewN ?_) | (with_reducible refine Below.alloc ?_ ?_ _) | (with_reducible refine Below.drew ?_) | (with_reducible refine Below.setCell ?_ ?_ _) | (with_reducible refine Below.trans ?_ (Below.mono (by with_reducible assumption) ?_)) | go_size)⟩
def FrB (W : World) (b : Nat) (u v : Value) (p q : Nat) : Prop := BoxN W b 49 #[.bool false, u, .bool false, v] ∧ RdF W (.agg #[.bool false, u, .bool false, v]) false p q
theorem FrB.below {W W' : World} {b : Nat} {u v : Value} {p q : Nat} (h : FrB W b u v p q) (hb : Below W.heap.size W W') : FrB W' b u v p q := ⟨h.1.below hb h.1.lt, h.2.kept hb⟩
theorem FrB.new {W : World} {u v : Value} {p q : Nat} (h : RdF W (.agg #[.bool false, u, .bool false, v]) false p q) : FrB (W.alloc (.cells #[.bool false, u, .bool false, v] 49)) W.heap.size u v p q :=
  ⟨BoxN.new W _ _, h.kept ((Below.refl _ _).alloc (Nat.le_refl _) _)⟩
end Go.Proofs.YthblaeleogdfpaaGreatDoor.Fr
namespace Go.Proofs.YthblaeleogdfpaaGreatDoor
open Go.RowKit
def TaB (W : World) (b : Nat) (id : Int) (nm : ByteArray) (v : Value) (xs : List Co) : Prop := BoxN W b 24 #[.int .i64 id, .string nm, v] ∧ RdCo W (· < W.heap.size) v xs
theorem TaB.below {W W' : World} {b : Nat} {id : Int} {nm : ByteArray} {v : Value} {xs : List Co} (h : TaB W b id nm v xs) (hb : Below W.heap.size W W') : TaB W' b id nm v xs :=
  ⟨h.1.below hb h.1.lt, (h.2.keep fun p (hp : p.block < W.heap.size) => hb.cell (p := p) hp).more fun b hb' => Nat.lt_of_lt_of_le hb' hb.size⟩
structure OrdSt (w W : World) (A B C : Nat) (va vb vc : Value) (nm nc : ByteArray) (xs ys zs : List Co) : Prop where
  bel : Below w.heap.size w W
  a : TaB W A 1 nm va xs
  b : TaB W B 2 ⟨#[]⟩ vb ys
  c : TaB W C 3 nc vc zs
theorem OrdSt.below {w W W' : World} {A B C : Nat} {va vb vc : Value} {nm nc : ByteArray} {xs ys zs : List Co} (h : OrdSt w W A B C va vb vc nm nc xs ys zs) (hb : Below W.heap.size W W') : OrdSt w W' A B C va vb vc nm nc xs ys zs :=
  ⟨h.bel.trans (hb.mono h.bel.size), h.a.below hb, h.b.below hb, h.c.below hb⟩
end Go.Proofs.YthblaeleogdfpaaGreatDoor

namespace Go.Proofs.YthblaeleogdfpaaGreatDoor
open Go.RowKit
def scoN (ta tb : Ta) : Nat := if tabB ta = true ∧ tabB tb = true then commonL ta.cols tb.cols / Nat.gcd (commonL ta.cols tb.cols) (denS ta.cols tb.cols) else 0
def scoD (ta tb : Ta) : Nat := if tabB ta = true ∧ tabB tb = true then denS ta.cols tb.cols / Nat.gcd (commonL ta.cols tb.cols) (denS ta.cols tb.cols) else 0
theorem dig_zero : Fr.dig 0 = [] := by unfold Fr.dig; rfl
theorem newF_zero (B : Nat) (w : World) : Fr.NewF B w none 0 none 0 0 0 := by
  unfold Fr.NewF
  rw [dig_zero]
  exact ⟨⟨none, 0, rfl, Nat.le_refl _, by simp [maxLen], by simp [Fr.Digs], fun h => absurd h (by simp)⟩, ⟨none, 0, rfl, Nat.le_refl _, by simp [maxLen], by simp [Fr.Digs], fun h => absurd h (by simp)⟩, (fun R hR a n c h => by cases h), (fun R hR a n c h => by cases h)⟩
set_option maxRecDepth 100000 in
set_option maxHeartbeats 4000000 in
theorem copies_CommonB (ta tb : Ta) (v u : Value) (B : Nat) (w : World) (h1 : SzT ta) (h2 : SzT tb) (hv : RdCo w (· < B) v ta.cols) (hu : RdCo w (· < B) u tb.cols) (hB : B ≤ w.heap.size) (hT : Tabs w) (hP : Pow w) :
  Calls Tryz.prog 16 #[.agg #[.int .i64 ta.id, .string ta.name, v], .agg #[.int .i64 tb.id, .string tb.name, u]] w (fun e w' => e = .returned (.tuple #[.int .i64 ((comB ta tb : Nat) : Int), .int .i64 (errB ta tb)]) ∧ Below w.heap.size w w') := by
 by_cases hboth : tabB ta = true ∧ tabB tb = true
 ·have h := copies_Common ta tb v u B w (tabV_ofB hboth.1) (tabV_ofB hboth.2) hv hu hB hT hP
  rw [show comB ta tb = commonL ta.cols tb.cols from if_pos hboth, show errB ta tb = 0 from if_pos hboth]
  exact h
 rw [show comB ta tb = 0 from if_neg hboth, show errB ta tb = 1 from if_neg hboth]
 have HV1 := hid (fun W (hW : Below w.heap.size w W) => table_ValidB ta v B W h1 (hv.keep fun p (hp : p.block < B) => hW.cell (p := p) (by omega)) (Nat.le_trans hB hW.size) (hT.below hW))
 have HV2 := hid (fun W (hW : Below w.heap.size w W) => table_ValidB tb u B W h2 (hu.keep fun p (hp : p.block < B) => hW.cell (p := p) (by omega)) (Nat.le_trans hB hW.size) (hT.below hW))
 clear hv hu hT hP h1 h2
 generalize tabB ta = g1 at *
 generalize tabB tb = g2 at *
 generalize ta.id = i1 at *
 generalize tb.id = i2 at *
 generalize ta.name = n1 at *
 generalize tb.name = n2 at *
 have HB0 : Hid (Below w.heap.size w ((w.alloc (.cells #[.int .i64 i1, .string n1, v] 24)).alloc (.cells #[.int .i64 i2, .string n2, u] 24))) := hid (((Below.refl _ w).alloc (Nat.le_refl _) _).alloc (by simp) _)
 have HX1 := hid ((BoxN.new w #[.int .i64 i1, .string n1, v] 24).alloc (.cells #[.int .i64 i2, .string n2, u] 24))
 have hx2 := BoxN.new (w.alloc (.cells #[.int .i64 i1, .string n1, v] 24)) #[.int .i64 i2, .string n2, u] 24
 rw [World.size_alloc] at hx2
 have HX2 := hid hx2
 have hz : ((w.alloc (.cells #[.int .i64 i1, .string n1, v] 24)).alloc (.cells #[.int .i64 i2, .string n2, u] 24)).heap.size = w.heap.size + 2 := by simp
 have c0 := HX1.out.cell 0 rfl
 have c1 := HX1.out.cell 1 rfl
 have c2 := HX1.out.cell 2 rfl
 clear hx2
 go_enter Tryz.func16, Tryz.ntmps16
 generalize hLA : Code.loop _ = LA
 generalize hLB : Code.loop _ = LB
 generalize hLC : Code.loop _ = LC
 clear hLA hLB hLC
 go_wp2_with fail
 with_reducible refine (HV1.out _ HB0.out).mono ?_
 clear c0 c1 c2
 generalize (w.alloc (.cells #[.int .i64 i1, .string n1, v] 24)).alloc (.cells #[.int .i64 i2, .string n2, u] 24) = W0 at *
 rintro e w1 ⟨rfl, hb1⟩
 have HX21 := hid (HX2.out.below hb1 HX2.out.lt)
 have HB1 := hid (HB0.out.trans (hb1.mono HB0.out.size))
 have d0 := HX21.out.cell 0 rfl
 have d1 := HX21.out.cell 1 rfl
 have d2 := HX21.out.cell 2 rfl
 have hz1 := hb1.size
 clear hb1
 cases g1 with
 | false =>
  go_wp2
  go_ret2
  exact ⟨rfl, HB1.out⟩
 | true =>
  go_wp2_with fail
  with_reducible refine (HV2.out _ HB1.out).mono ?_
  rintro e w2 ⟨rfl, hb2⟩
  have HB2 := hid (HB1.out.trans (hb2.mono HB1.out.size))
  clear hb2 d0 d1 d2
  cases g2 with
  | false =>
   go_wp2
   go_ret2
   exact ⟨rfl, HB2.out⟩
  | true => exact absurd (by simp) hboth
set_option maxRecDepth 100000 in
set_option maxHeartbeats 4000000 in
theorem copies_ScoreB (ta tb : Ta) (v u : Value) (B : Nat) (w : World) (h1 : SzT ta) (h2 : SzT tb) (hv : RdCo w (· < B) v ta.cols) (hu : RdCo w (· < B) u tb.cols) (hB : B ≤ w.heap.size) (hT : Tabs w) (hP : Pow w) :
  Calls Tryz.prog 18 #[.agg #[.int .i64 ta.id, .string ta.name, v], .agg #[.int .i64 tb.id, .string tb.name, u]] w (Fr.GivesFE w false (scoN ta tb) (scoD ta tb) (.int .i64 (errB ta tb))) := by
 by_cases hboth : tabB ta = true ∧ tabB tb = true
 ·have h := copies_Score ta tb v u B w (tabV_ofB hboth.1) (tabV_ofB hboth.2) hv hu hB hT hP
  rw [show scoN ta tb = _ from if_pos hboth, show scoD ta tb = _ from if_pos hboth, show errB ta tb = 0 from if_pos hboth]
  exact h
 rw [show scoN ta tb = 0 from if_neg hboth, show scoD ta tb = 0 from if_neg hboth, show errB ta tb = 1 from if_neg hboth]
 have HCO := hid (fun W (hW : Below w.heap.size w W) => copies_CommonB ta tb v u B W h1 h2 (hv.keep fun p (hp : p.block < B) => hW.cell (p := p) (by omega)) (hu.keep fun p (hp : p.block < B) => hW.cell (p := p) (by omega)) (Nat.le_trans hB hW.size) (hT.below hW) (hP.below hW (Nat.le_refl _)))
 rw [show comB ta tb = 0 from if_neg hboth, show errB ta tb = 1 from if_neg hboth] at HCO
 clear hv hu hT hP h1 h2 hboth
 generalize ta.id = i1 at *
 generalize tb.id = i2 at *
 generalize ta.name = n1 at *
 generalize tb.name = n2 at *
 have HB0 := hid ((((Below.refl w.heap.size w).alloc (Nat.le_refl _) (.cells #[.int .i64 i1, .string n1, v] 24)).alloc (by simp) (.cells #[.int .i64 i2, .string n2, u] 24)).alloc (by simp; omega) (.cells #[.bool false, .slice none 0 0, .bool false, .slice none 0 0] 49))
 have HX1 := hid (((BoxN.new w #[.int .i64 i1, .string n1, v] 24).alloc (.cells #[.int .i64 i2, .string n2, u] 24)).alloc (.cells #[.bool false, .slice none 0 0, .bool false, .slice none 0 0] 49))
 have hx2 := (BoxN.new (w.alloc (.cells #[.int .i64 i1, .string n1, v] 24)) #[.int .i64 i2, .string n2, u] 24).alloc (.cells #[.bool false, .slice none 0 0, .bool false, .slice none 0 0] 49)
 rw [World.size_alloc] at hx2
 have HX2 := hid hx2
 have hx3 := BoxN.new ((w.alloc (.cells #[.int .i64 i1, .string n1, v] 24)).alloc (.cells #[.int .i64 i2, .string n2, u] 24)) #[.bool false, .slice none 0 0, .bool false, .slice none 0 0] 49
 rw [World.size_alloc, World.size_alloc] at hx3
 have HX3 := hid hx3
 have hz : (((w.alloc (.cells #[.int .i64 i1, .string n1, v] 24)).alloc (.cells #[.int .i64 i2, .string n2, u] 24)).alloc (.cells #[.bool false, .slice none 0 0, .bool false, .slice none 0 0] 49)).heap.size = w.heap.size + 3 := by simp
 have c0 := HX1.out.cell 0 rfl
 have c1 := HX1.out.cell 1 rfl
 have c2 := HX1.out.cell 2 rfl
 have d0 := HX2.out.cell 0 rfl
 have d1 := HX2.out.cell 1 rfl
 have d2 := HX2.out.cell 2 rfl
 clear hx2 hx3
 go_enter Tryz.func18, Tryz.ntmps18
 go_wp2_with fail
 generalize ((w.alloc (.cells #[.int .i64 i1, .string n1, v] 24)).alloc (.cells #[.int .i64 i2, .string n2, u] 24)).alloc (.cells #[.bool false, .slice none 0 0, .bool false, .slice none 0 0] 49) = W0 at *
 with_reducible refine (HCO.out _ HB0.out).mono ?_
 clear c0 c1 c2 d0 d1 d2
 rintro e w1 ⟨rfl, hb1⟩
 have HB1 := hid (HB0.out.trans (hb1.mono HB0.out.size))
 have HX11 := hid (HX1.out.below hb1 HX1.out.lt)
 have HX21 := hid (HX2.out.below hb1 HX2.out.lt)
 have HX31 := hid (HX3.out.below hb1 HX3.out.lt)
 have hz1 := hb1.size
 clear hb1
 have m0 := HX31.out.cell 0 rfl
 have m1 := HX31.out.cell 1 rfl
 have m2 := HX31.out.cell 2 rfl
 have m3 := HX31.out.cell 3 rfl
 have f0 := HX31.out.frozen 0
 have f1 := HX31.out.frozen 1
 have f2 := HX31.out.frozen 2
 have f3 := HX31.out.frozen 3
 have hrl := HX31.out.lt
 go_wp2
 refine bodyPost_ret (by simp [results, Tryz.results18, go_sem, m0, m1, m2, m3]; rfl) rfl ?_
 refine ⟨none, 0, none, 0, by rw [dig_zero]; rfl, newF_zero _ _, ?_⟩
 exact ((((HB1.out.setCell (p := ⟨w.heap.size + 2, 0, none⟩) (by show w.heap.size ≤ w.heap.size + 2; omega) _).setCell (p := ⟨w.heap.size + 2, 1, none⟩) (by show w.heap.size ≤ w.heap.size + 2; omega) _).setCell (p := ⟨w.heap.size + 2, 2, none⟩) (by show w.heap.size ≤ w.heap.size + 2; omega) _).setCell (p := ⟨w.heap.size + 2, 3, none⟩) (by show w.heap.size ≤ w.heap.size + 2; omega) _)
set_option maxRecDepth 100000 in
set_option maxHeartbeats 4000000 in
theorem ref36_Score (ta tb : Ta) (v u : Value) (B : Nat) (w : World) (h1 : SzT ta) (h2 : SzT tb) (hv : RdCo w (· < B) v ta.cols) (hu : RdCo w (· < B) u tb.cols) (hB : B ≤ w.heap.size) (hT : Tabs w) :
  Calls Tryz.prog 19 #[.agg #[.int .i64 ta.id, .string ta.name, v], .agg #[.int .i64 tb.id, .string tb.name, u]] w (Fr.GivesFE w false (scoN ta tb) (scoD ta tb) (.int .i64 (errB ta tb))) := by
 have HCO := hid (fun W (hW : Below w.heap.size w W) => ref36_Common ta tb v u B W h1 h2 (hv.keep fun p (hp : p.block < B) => hW.cell (p := p) (by omega)) (hu.keep fun p (hp : p.block < B) => hW.cell (p := p) (by omega)) (Nat.le_trans hB hW.size) (hT.below hW))
 by_cases hboth : tabB ta = true ∧ tabB tb = true
 ·rw [show scoN ta tb = _ from if_pos hboth, show scoD ta tb = _ from if_pos hboth, show errB ta tb = 0 from if_pos hboth]
  rw [show comB ta tb = _ from if_pos hboth, show errB ta tb = 0 from if_pos hboth] at HCO
  have HR1 := hid (fun W (hW : Below w.heap.size w W) => ref03_Rows ta.id ta.name v ta.cols B W (hv.keep fun p (hp : p.block < B) => hW.cell (p := p) (by omega)) (Nat.le_trans hB hW.size))
  have HR2 := hid (fun W (hW : Below w.heap.size w W) => ref03_Rows tb.id tb.name u tb.cols B W (hu.keep fun p (hp : p.block < B) => hW.cell (p := p) (by omega)) (Nat.le_trans hB hW.size))
  have hra : rowsC ta.cols ≤ 4096 := rows_le (tabV_ofB hboth.1)
  have hrb : rowsC tb.cols ≤ 4096 := rows_le (tabV_ofB hboth.2)
  have hcl : commonL ta.cols tb.cols ≤ rowsC ta.cols := commonL_le_rows _ _
  have HDE : Hid (denS ta.cols tb.cols = max (max (rowsC ta.cols) (rowsC tb.cols)) 1) := hid rfl
  have HPA := hid (fun n d W (h1 : n < 9223372036854775808) (h2 : 0 < d) (h3 : d < 9223372036854775808) => Fr.ref_Part n d W h1 h2 h3)
  clear hv hu hT h1 h2 hboth
  generalize denS ta.cols tb.cols = D at *
  generalize commonL ta.cols tb.cols = C at *
  generalize rowsC ta.cols = ra at *
  generalize rowsC tb.cols = rb at *
  generalize ta.id = i1 at *
  generalize tb.id = i2 at *
  generalize ta.name = n1 at *
  generalize tb.name = n2 at *
  have HB0 := hid ((((Below.refl w.heap.size w).alloc (Nat.le_refl _) (.cells #[.int .i64 i1, .string n1, v] 24)).alloc (by simp) (.cells #[.int .i64 i2, .string n2, u] 24)).alloc (by simp; omega) (.cells #[.bool false, .slice none 0 0, .bool false, .slice none 0 0] 49))
  have HX1 := hid (((BoxN.new w #[.int .i64 i1, .string n1, v] 24).alloc (.cells #[.int .i64 i2, .string n2, u] 24)).alloc (.cells #[.bool false, .slice none 0 0, .bool false, .slice none 0 0] 49))
  have hx2 := (BoxN.new (w.alloc (.cells #[.int .i64 i1, .string n1, v] 24)) #[.int .i64 i2, .string n2, u] 24).alloc (.cells #[.bool false, .slice none 0 0, .bool false, .slice none 0 0] 49)
  rw [World.size_alloc] at hx2
  have HX2 := hid hx2
  have hx3 := BoxN.new ((w.alloc (.cells #[.int .i64 i1, .string n1, v] 24)).alloc (.cells #[.int .i64 i2, .string n2, u] 24)) #[.bool false, .slice none 0 0, .bool false, .slice none 0 0] 49
  rw [World.size_alloc, World.size_alloc] at hx3
  have HX3 := hid hx3
  have hz : (((w.alloc (.cells #[.int .i64 i1, .string n1, v] 24)).alloc (.cells #[.int .i64 i2, .string n2, u] 24)).alloc (.cells #[.bool false, .slice none 0 0, .bool false, .slice none 0 0] 49)).heap.size = w.heap.size + 3 := by simp
  have c0 := HX1.out.cell 0 rfl
  have c1 := HX1.out.cell 1 rfl
  have c2 := HX1.out.cell 2 rfl
  have d0 := HX2.out.cell 0 rfl
  have d1 := HX2.out.cell 1 rfl
  have d2 := HX2.out.cell 2 rfl
  clear hx2 hx3
  go_enter Tryz.func19, Tryz.ntmps19
  go_wp2_with fail
  generalize ((w.alloc (.cells #[.int .i64 i1, .string n1, v] 24)).alloc (.cells #[.int .i64 i2, .string n2, u] 24)).alloc (.cells #[.bool false, .slice none 0 0, .bool false, .slice none 0 0] 49) = W0 at *
  with_reducible refine (HCO.out _ HB0.out).mono ?_
  clear c0 c1 c2 d0 d1 d2
  rintro e w1 ⟨rfl, hb1⟩
  have HB1 := hid (HB0.out.trans (hb1.mono HB0.out.size))
  have HX11 := hid (HX1.out.below hb1 HX1.out.lt)
  have HX21 := hid (HX2.out.below hb1 HX2.out.lt)
  have HX31 := hid (HX3.out.below hb1 HX3.out.lt)
  have hz1 := hb1.size
  clear hb1
  have HLT := hid (fun W (hW : Below w1.heap.size w1 W) => HB1.out.trans (hW.mono HB1.out.size))
  have HC1 := hid (fun p : LaterOf w1 => later_call p (HR1.out p.W (HLT.out p.W p.hb)))
  have HC2 := hid (fun p : LaterOf w1 => later_call p (HR2.out p.W (HLT.out p.W p.hb)))
  have g0 := fun p : LaterOf w1 => p.cell (v := .int .i64 i1) (HX11.out.cell 0 rfl)
  have g1 := fun p : LaterOf w1 => p.cell (v := .string n1) (HX11.out.cell 1 rfl)
  have g2 := fun p : LaterOf w1 => p.cell (v := v) (HX11.out.cell 2 rfl)
  have g3 := fun p : LaterOf w1 => p.cell (v := .int .i64 i2) (HX21.out.cell 0 rfl)
  have g4 := fun p : LaterOf w1 => p.cell (v := .string n2) (HX21.out.cell 1 rfl)
  have g5 := fun p : LaterOf w1 => p.cell (v := u) (HX21.out.cell 2 rfl)
  go_upto_region 4 with fail
  refine wp_region_later (by kernel_rfl) (by kernel_rfl) ?_
  repeat (first | go_big_quiet_step ((go_at_call 57; first | with_reducible exact HC1.out _ | with_reducible exact HC2.out _)) | quiet_step ((go_at_call 57; first | with_reducible exact HC1.out _ | with_reducible exact HC2.out _)))
  refine wpQuiet_nil ?_
  intro _ hw'
  obtain ⟨p5, rfl⟩ := hw'
  have HB5 := hid (HLT.out p5.W p5.hb)
  have HX35 := hid (HX31.out.below p5.hb HX31.out.lt)
  have hz5 := p5.hb.size
  generalize p5.W = w5 at *
  clear g0 g1 g2 g3 g4 g5 HC1 HC2
  rw [show max (ra : Int) (rb : Int) = ((max ra rb : Nat) : Int) from by omega]
  have HMD : Hid (max (max ra rb) 1 = D) := hid HDE.out.symm
  have hMl : max ra rb ≤ 4096 := by omega
  have hCM : C ≤ max ra rb := by omega
  clear HDE HR1 HR2
  generalize max ra rb = M at *
  by_cases hM : M = 0
  ·obtain rfl : C = 0 := by omega
   obtain rfl : D = 1 := by rw [← HMD.out, hM]; rfl
   have hd : ((M : Int) = 0) := by omega
   have hd2 : decide ((M : Int) = 0) = true := decide_eq_true hd
   have hd3 : ((M : Int) == 0) = true := by simpa using hd
   clear hM hd
   go_wp2_with fail
   with_reducible refine (Fr.ref_Zero _).mono ?_
   rintro e w6 ⟨x4, y4, x5, y5, rfl, hN, hb6⟩
   have HN := hid hN
   have HB6 := hid (HB5.out.trans (hb6.mono HB5.out.size))
   have hx6 := HX35.out.below hb6 HX35.out.lt
   have m0 := hx6.cell 0 rfl
   have m1 := hx6.cell 1 rfl
   have m2 := hx6.cell 2 rfl
   have m3 := hx6.cell 3 rfl
   have f0 := hx6.frozen 0
   have f1 := hx6.frozen 1
   have f2 := hx6.frozen 2
   have f3 := hx6.frozen 3
   have hrl := hx6.lt
   have hz6 := hb6.size
   have hrl5 := HX35.out.lt
   clear hb6 hN hx6
   go_wp2
   refine bodyPost_ret (by simp [results, Tryz.results19, go_sem, m0, m1, m2, m3]; rfl) rfl ?_
   refine ⟨x4, y4, x5, y5, by first | rfl | simp, ((((HN.out.setCell hrl5).setCell hrl5).setCell hrl5).setCell hrl5).mono (by omega), ?_⟩
   exact (((HB6.out.setCell (p := ⟨w.heap.size + 2, 0, none⟩) (by show w.heap.size ≤ w.heap.size + 2; omega) _).setCell (p := ⟨w.heap.size + 2, 1, none⟩) (by show w.heap.size ≤ w.heap.size + 2; omega) _).setCell (p := ⟨w.heap.size + 2, 2, none⟩) (by show w.heap.size ≤ w.heap.size + 2; omega) _).setCell (p := ⟨w.heap.size + 2, 3, none⟩) (by show w.heap.size ≤ w.heap.size + 2; omega) _
  ·have hd2 : decide ((M : Int) = 0) = false := decide_eq_false (by omega)
   have hd3 : ((M : Int) == 0) = false := by simp; omega
   obtain rfl : D = M := by rw [← HMD.out]; omega
   have HPB := hid (fun W => HPA.out C D W (by omega) (by omega) (by omega))
   clear hM
   go_wp2_with fail
   with_reducible refine (HPB.out _).mono ?_
   rintro e w6 ⟨x4, y4, x5, y5, rfl, hN, hb6⟩
   have HN := hid hN
   have HB6 := hid (HB5.out.trans (hb6.mono HB5.out.size))
   have hx6 := HX35.out.below hb6 HX35.out.lt
   have m0 := hx6.cell 0 rfl
   have m1 := hx6.cell 1 rfl
   have m2 := hx6.cell 2 rfl
   have m3 := hx6.cell 3 rfl
   have f0 := hx6.frozen 0
   have f1 := hx6.frozen 1
   have f2 := hx6.frozen 2
   have f3 := hx6.frozen 3
   have hrl := hx6.lt
   have hz6 := hb6.size
   have hrl5 := HX35.out.lt
   clear hb6 hN hx6
   go_wp2
   refine bodyPost_ret (by simp [results, Tryz.results19, go_sem, m0, m1, m2, m3]; rfl) rfl ?_
   refine ⟨x4, y4, x5, y5, by first | rfl | simp, ((((HN.out.setCell hrl5).setCell hrl5).setCell hrl5).setCell hrl5).mono (by omega), ?_⟩
   exact (((HB6.out.setCell (p := ⟨w.heap.size + 2, 0, none⟩) (by show w.heap.size ≤ w.heap.size + 2; omega) _).setCell (p := ⟨w.heap.size + 2, 1, none⟩) (by show w.heap.size ≤ w.heap.size + 2; omega) _).setCell (p := ⟨w.heap.size + 2, 2, none⟩) (by show w.heap.size ≤ w.heap.size + 2; omega) _).setCell (p := ⟨w.heap.size + 2, 3, none⟩) (by show w.heap.size ≤ w.heap.size + 2; omega) _
 ·rw [show scoN ta tb = 0 from if_neg hboth, show scoD ta tb = 0 from if_neg hboth, show errB ta tb = 1 from if_neg hboth]
  rw [show comB ta tb = 0 from if_neg hboth, show errB ta tb = 1 from if_neg hboth] at HCO
  clear hv hu hT h1 h2 hboth
  generalize ta.id = i1 at *
  generalize tb.id = i2 at *
  generalize ta.name = n1 at *
  generalize tb.name = n2 at *
  have HB0 := hid ((((Below.refl w.heap.size w).alloc (Nat.le_refl _) (.cells #[.int .i64 i1, .string n1, v] 24)).alloc (by simp) (.cells #[.int .i64 i2, .string n2, u] 24)).alloc (by simp; omega) (.cells #[.bool false, .slice none 0 0, .bool false, .slice none 0 0] 49))
  have HX1 := hid (((BoxN.new w #[.int .i64 i1, .string n1, v] 24).alloc (.cells #[.int .i64 i2, .string n2, u] 24)).alloc (.cells #[.bool false, .slice none 0 0, .bool false, .slice none 0 0] 49))
  have hx2 := (BoxN.new (w.alloc (.cells #[.int .i64 i1, .string n1, v] 24)) #[.int .i64 i2, .string n2, u] 24).alloc (.cells #[.bool false, .slice none 0 0, .bool false, .slice none 0 0] 49)
  rw [World.size_alloc] at hx2
  have HX2 := hid hx2
  have hx3 := BoxN.new ((w.alloc (.cells #[.int .i64 i1, .string n1, v] 24)).alloc (.cells #[.int .i64 i2, .string n2, u] 24)) #[.bool false, .slice none 0 0, .bool false, .slice none 0 0] 49
  rw [World.size_alloc, World.size_alloc] at hx3
  have HX3 := hid hx3
  have hz : (((w.alloc (.cells #[.int .i64 i1, .string n1, v] 24)).alloc (.cells #[.int .i64 i2, .string n2, u] 24)).alloc (.cells #[.bool false, .slice none 0 0, .bool false, .slice none 0 0] 49)).heap.size = w.heap.size + 3 := by simp
  have c0 := HX1.out.cell 0 rfl
  have c1 := HX1.out.cell 1 rfl
  have c2 := HX1.out.cell 2 rfl
  have d0 := HX2.out.cell 0 rfl
  have d1 := HX2.out.cell 1 rfl
  have d2 := HX2.out.cell 2 rfl
  clear hx2 hx3
  go_enter Tryz.func19, Tryz.ntmps19
  go_wp2_with fail
  generalize ((w.alloc (.cells #[.int .i64 i1, .string n1, v] 24)).alloc (.cells #[.int .i64 i2, .string n2, u] 24)).alloc (.cells #[.bool false, .slice none 0 0, .bool false, .slice none 0 0] 49) = W0 at *
  with_reducible refine (HCO.out _ HB0.out).mono ?_
  clear c0 c1 c2 d0 d1 d2
  rintro e w1 ⟨rfl, hb1⟩
  have HB1 := hid (HB0.out.trans (hb1.mono HB0.out.size))
  have HX11 := hid (HX1.out.below hb1 HX1.out.lt)
  have HX21 := hid (HX2.out.below hb1 HX2.out.lt)
  have HX31 := hid (HX3.out.below hb1 HX3.out.lt)
  have hz1 := hb1.size
  clear hb1
  have m0 := HX31.out.cell 0 rfl
  have m1 := HX31.out.cell 1 rfl
  have m2 := HX31.out.cell 2 rfl
  have m3 := HX31.out.cell 3 rfl
  have f0 := HX31.out.frozen 0
  have f1 := HX31.out.frozen 1
  have f2 := HX31.out.frozen 2
  have f3 := HX31.out.frozen 3
  have hrl := HX31.out.lt
  go_wp2
  refine bodyPost_ret (by simp [results, Tryz.results19, go_sem, m0, m1, m2, m3]; rfl) rfl ?_
  refine ⟨none, 0, none, 0, by rw [dig_zero]; rfl, newF_zero _ _, ?_⟩
  exact ((((HB1.out.setCell (p := ⟨w.heap.size + 2, 0, none⟩) (by show w.heap.size ≤ w.heap.size + 2; omega) _).setCell (p := ⟨w.heap.size + 2, 1, none⟩) (by show w.heap.size ≤ w.heap.size + 2; omega) _).setCell (p := ⟨w.heap.size + 2, 2, none⟩) (by show w.heap.size ≤ w.heap.size + 2; omega) _).setCell (p := ⟨w.heap.size + 2, 3, none⟩) (by show w.heap.size ≤ w.heap.size + 2; omega) _)
end Go.Proofs.YthblaeleogdfpaaGreatDoor

namespace Go.Proofs.YthblaeleogdfpaaGreatDoor
open Go.RowKit
set_option maxHeartbeats 1000000 in
theorem ref27_SameInts (v u : Value) (L : List Nat) (n B : Nat) (w : World) (hv : InK 1 w (· < B) v n (fun j _ => .int .i64 ((L.getD j 0 : Nat) : Int))) (hu : InK 1 w (· < B) u n (fun j _ => .int .i64 ((L.getD j 0 : Nat) : Int))) :
    Calls Tryz.prog 20 #[v, u] w fun e w' => e = .returned (.bool true) ∧ w' = w := by
  obtain ⟨a1, c1, rfl, hc, hm, hr⟩ := hv
  obtain ⟨a2, c2, rfl, -, -, hr2⟩ := hu
  have HR := hid hr
  have HR2 := hid hr2
  clear hr hr2
  unfold maxLen at hm
  have hne : ((n : Int) != (n : Int)) = false := by simp
  go_enter Tryz.func20, Tryz.ntmps20
  go_wp2_with fail
  clear hne
  go_loopg [14] n (fun N i wr => ∃ q : Nat, q + N = n ∧ i = .int .i64 (q : Int) ∧ wr = w)
  case atStart => exact ⟨0, by omega, rfl, rfl⟩
  case round =>
    obtain ⟨q, hq, rfl, rfl⟩ := hrel
    by_cases hp : 0 < gk
    · obtain ⟨b, o, rfl, hb, hcell⟩ := HR.out (by omega)
      obtain ⟨b2, o2, rfl, hb2, hcell2⟩ := HR2.out (by omega)
      have k0 : wr.cell? ⟨b, o + q, none⟩ = some (.int .i64 ((L.getD q 0 : Nat) : Int)) := by have := hcell q (by omega) 0 (by omega); simpa using this
      have k1 : wr.cell? ⟨b2, o2 + q, none⟩ = some (.int .i64 ((L.getD q 0 : Nat) : Int)) := by have := hcell2 q (by omega) 0 (by omega); simpa using this
      clear hcell hcell2
      generalize ((L.getD q 0 : Nat) : Int) = z at *
      have hne : (z != z) = false := by simp
      go_wp2
      go_roundg (gk - 1)
      case rel => exact ⟨q + 1, by omega, by go_num, rfl⟩
      case measure => omega
    · obtain rfl : q = n := by omega
      go_wp2
      go_ret
      exact ⟨rfl, rfl⟩
end Go.Proofs.YthblaeleogdfpaaGreatDoor
