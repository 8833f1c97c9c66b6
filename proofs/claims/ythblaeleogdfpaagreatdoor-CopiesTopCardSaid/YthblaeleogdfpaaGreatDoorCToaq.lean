/- Contracts of num.Of and of the reference's Part and Same (at equal fractions). Contract of copies.Score, at valid tables. Plain: the matches of CopiesTop by their tables' numbers, and their order. DERIVED: THE SHELF's CONTRACTS AT THIS DUMP, IN PLAIN WORDS (tools/lay-plain.mjs out of 'YthblaeleogdfpaaGreatDoorShML.lean', which tools/lay-shelf.mjs wrote): THE SAME DECLARATIONS UNDER THE SAME NAMES: 'import', 'namespace', 'open', 'def', 'theorem' AND NOTHING ELSE: no command of the shelf's: FOR A HAND-IN. Each laying: the table of numbers ('.._ren') and one theorem, a field a fact of the dump's own or the kernel's comparison; each contract: ONE APPLICATION. -/
import Derived.Test.YthblaeleogdfpaaGreatDoorCToam
import Derived.Test.YthblaeleogdfpaaGreatDoorCToap
import Derived.Test.YthblaeleogdfpaaGreatDoorCToaj
import Derived.Deep.RegionHeld3
import Derived.Test.YthblaeleogdfpaaGreatDoorCToah
import Derived.Shelf.SlSortCmp.WholeK
import Derived.Ground.SlsfProg
import Derived.Test.YthblaeleogdfpaaGreatDoorProg
set_option linter.unusedVariables false
set_option linter.unusedSimpArgs false
namespace Go.Proofs.YthblaeleogdfpaaGreatDoor.Fr
open Go.RowKit
set_option maxRecDepth 100000 in
set_option maxHeartbeats 4000000 in
theorem num_Of (n d : Nat) (w : World) (hn : n < 9223372036854775808) (hd : 0 < d) (hd2 : d < 4294967296) :
  Calls Tryz.prog 59 #[.int .i64 (n : Int), .int .i64 (d : Int)] w (GivesF w false (n / Nat.gcd n d) (d / Nat.gcd n d)) := by
 have HOF := hid (fun W => frac_Of1 n d W hn hd hd2)
 generalize n / Nat.gcd n d = p at *
 generalize d / Nat.gcd n d = q at *
 go_enter Tryz.func59, Tryz.ntmps59
 go_wp2_with fail
 refine (HOF.out _).mono ?_
 rintro e w3 ⟨a3, c3, a4, c4, rfl, hN, hb3⟩
 have HN := hid hN
 have HB3 := hid hb3
 have hz3 := hb3.size
 have m0 := cell_later hb3 (a := ⟨w.heap.size, 0, none⟩) (v := .bool false) (by go_cell)
 have m1 := cell_later hb3 (a := ⟨w.heap.size, 1, none⟩) (v := .slice none 0 0) (by go_cell)
 have m2 := cell_later hb3 (a := ⟨w.heap.size, 2, none⟩) (v := .bool false) (by go_cell)
 have m3 := cell_later hb3 (a := ⟨w.heap.size, 3, none⟩) (v := .slice none 0 0) (by go_cell)
 have fm0 := frozen_later hb3 (a := ⟨w.heap.size, 0, none⟩) (v := .bool false) (by go_cell) (by simp [go_sem])
 have fm1 := frozen_later hb3 (a := ⟨w.heap.size, 1, none⟩) (v := .slice none 0 0) (by go_cell) (by simp [go_sem])
 have fm2 := frozen_later hb3 (a := ⟨w.heap.size, 2, none⟩) (v := .bool false) (by go_cell) (by simp [go_sem])
 have fm3 := frozen_later hb3 (a := ⟨w.heap.size, 3, none⟩) (v := .slice none 0 0) (by go_cell) (by simp [go_sem])
 clear hN hb3
 simp at hz3
 have hlt : w.heap.size < w3.heap.size := by omega
 have hne : w.heap.size ≠ w3.heap.size := by omega
 go_wp2
 refine bodyPost_ret (by simp [results, Tryz.results59, go_sem, m0, m1, m2, m3, hne, hlt]; rfl) rfl ?_
 exact ⟨a3, c3, a4, c4, by first | rfl | simp, (((((HN.out.setCell (by simp)).setCell (by simp)).setCell (by simp)).setCell (by simp)).kept ((Below.refl _ _).alloc (Nat.le_refl _) _)).mono (by simp), by have h3 := HB3.out; repeat' (first | (with_reducible exact Below.refl _ _) | (with_reducible assumption) | (with_reducible refine below_drewN ?_) | (with_reducible refine Below.alloc ?_ ?_ _) | (with_reducible refine Below.drew ?_) | (with_reducible refine Below.setCell ?_ ?_ _) | (with_reducible refine Below.trans ?_ (Below.mono (by with_reducible assumption) ?_)) | go_size)⟩
set_option maxRecDepth 100000 in
set_option maxHeartbeats 4000000 in
theorem ref_Part (n d : Nat) (w : World) (hn : n < 9223372036854775808) (hd : 0 < d) (hd2 : d < 9223372036854775808) :
  Calls Tryz.prog 34 #[.int .i64 (n : Int), .int .i64 (d : Int)] w (GivesF w false (n / Nat.gcd n d) (d / Nat.gcd n d)) := by
 have HOF := hid (fun W => ref_Of n d W hn hd hd2)
 generalize n / Nat.gcd n d = p at *
 generalize d / Nat.gcd n d = q at *
 go_enter Tryz.func34, Tryz.ntmps34
 go_wp2_with fail
 refine (HOF.out _).mono ?_
 rintro e w3 ⟨a3, c3, a4, c4, rfl, hN, hb3⟩
 have HN := hid hN
 have HB3 := hid hb3
 have hz3 := hb3.size
 have m0 := cell_later hb3 (a := ⟨w.heap.size, 0, none⟩) (v := .bool false) (by go_cell)
 have m1 := cell_later hb3 (a := ⟨w.heap.size, 1, none⟩) (v := .slice none 0 0) (by go_cell)
 have m2 := cell_later hb3 (a := ⟨w.heap.size, 2, none⟩) (v := .bool false) (by go_cell)
 have m3 := cell_later hb3 (a := ⟨w.heap.size, 3, none⟩) (v := .slice none 0 0) (by go_cell)
 have fm0 := frozen_later hb3 (a := ⟨w.heap.size, 0, none⟩) (v := .bool false) (by go_cell) (by simp [go_sem])
 have fm1 := frozen_later hb3 (a := ⟨w.heap.size, 1, none⟩) (v := .slice none 0 0) (by go_cell) (by simp [go_sem])
 have fm2 := frozen_later hb3 (a := ⟨w.heap.size, 2, none⟩) (v := .bool false) (by go_cell) (by simp [go_sem])
 have fm3 := frozen_later hb3 (a := ⟨w.heap.size, 3, none⟩) (v := .slice none 0 0) (by go_cell) (by simp [go_sem])
 clear hN hb3
 simp at hz3
 have hlt : w.heap.size < w3.heap.size := by omega
 have hne : w.heap.size ≠ w3.heap.size := by omega
 go_wp2
 refine bodyPost_ret (by simp [results, Tryz.results34, go_sem, m0, m1, m2, m3, hne, hlt]; rfl) rfl ?_
 exact ⟨a3, c3, a4, c4, by first | rfl | simp, (((((HN.out.setCell (by simp)).setCell (by simp)).setCell (by simp)).setCell (by simp)).kept ((Below.refl _ _).alloc (Nat.le_refl _) _)).mono (by simp), by have h3 := HB3.out; repeat' (first | (with_reducible exact Below.refl _ _) | (with_reducible assumption) | (with_reducible refine below_drewN ?_) | (with_reducible refine Below.alloc ?_ ?_ _) | (with_reducible refine Below.drew ?_) | (with_reducible refine Below.setCell ?_ ?_ _) | (with_reducible refine Below.trans ?_ (Below.mono (by with_reducible assumption) ?_)) | go_size)⟩
set_option maxRecDepth 100000 in
set_option maxHeartbeats 1000000 in
theorem ref_sameBig (u v : Value) (xs : List Nat) (w : World) (hx : Rd32 w u xs) (hy : Rd32 w v xs) :
  Calls Tryz.prog 60 #[.agg #[.bool false, u], .agg #[.bool false, v]] w (Ret w (.bool true)) := by
 obtain ⟨a, c, rfl, hc, hm, hxr, hxc⟩ := hx
 obtain ⟨a', c', rfl, hc', hm', hyr, hyc⟩ := hy
 have HXC := hid hxc
 have HYC := hid hyc
 have HXR := hid hxr
 clear hxc hyc hxr hyr
 generalize hn : xs.length = n at *
 clear hn
 unfold maxLen at hm hm'
 have HB0 := hid (((Below.refl w.heap.size w).alloc (Nat.le_refl _) (.cells #[.bool false, .slice a n c] 47)).alloc (by simp) (.cells #[.bool false, .slice a' n c'] 47))
 have HX1 := hid ((BoxN.new w #[.bool false, .slice a n c] 47).alloc (.cells #[.bool false, .slice a' n c'] 47))
 have hx2 := BoxN.new (w.alloc (.cells #[.bool false, .slice a n c] 47)) #[.bool false, .slice a' n c'] 47
 rw [World.size_alloc] at hx2
 have HX2 := hid hx2
 clear hx2
 go_enter Tryz.func60, Tryz.ntmps60
 generalize hLA : Code.loop _ = LA
 go_wp2_with fail
 subst hLA
 generalize (w.alloc (.cells #[.bool false, .slice a n c] 47)).alloc (.cells #[.bool false, .slice a' n c'] 47) = W0 at *
 have d0 := HX2.out.cell 0 rfl
 have d1 := HX2.out.cell 1 rfl
 have c0 := HX1.out.cell 0 rfl
 have c1 := HX1.out.cell 1 rfl
 go_loopg [24] n (fun N i wr => ∃ q : Nat, q + N = n ∧ i = .int .i64 (q : Int) ∧ wr = W0)
 case atStart => exact ⟨0, by omega, rfl, rfl⟩
 case round =>
  obtain ⟨q, hq, rfl, rfl⟩ := hrel
  by_cases hp : 0 < gk
  ·obtain ⟨b, o, rfl, hb, h1⟩ := HXC.out (by omega)
   obtain ⟨b', o', rfl, hb', h2⟩ := HYC.out (by omega)
   have k1 := (HB0.out.cell (p := ⟨b, o + q, none⟩) hb).trans (h1 q (by omega))
   have k2 := (HB0.out.cell (p := ⟨b', o' + q, none⟩) hb').trans (h2 q (by omega))
   clear h1 h2
   generalize xs.getD q 0 = x at *
   go_wp2_with fail
   go_roundg (gk - 1)
   case rel => exact ⟨q + 1, by omega, by go_num, rfl⟩
   case measure => omega
  ·obtain rfl : q = n := by omega
   go_wp2_with fail
   go_ret
   exact ⟨rfl, HB0.out⟩
set_option maxRecDepth 100000 in
set_option maxHeartbeats 1000000 in
theorem ref_Same (u v : Value) (p q : Nat) (w : World) (hu : RdF w u false p q) (hv : RdF w v false p q) :
  Calls Tryz.prog 21 #[u, v] w (Ret w (.bool true)) := by
 obtain ⟨a1, c1, b1, d1, rfl, ha1, hb1⟩ := hu
 obtain ⟨a2, c2, b2, d2, rfl, ha2, hb2⟩ := hv
 have HS1 := hid (fun W (hW : Below w.heap.size w W) => ref_sameBig _ _ (dig p) W (ha1.kept hW) (ha2.kept hW))
 have HS2 := hid (fun W (hW : Below w.heap.size w W) => ref_sameBig _ _ (dig q) W (hb1.kept hW) (hb2.kept hW))
 clear ha1 ha2 hb1 hb2
 generalize (dig p).length = n at *
 generalize (dig q).length = m at *
 have HB0 := hid (((Below.refl w.heap.size w).alloc (Nat.le_refl _) (.cells #[.bool false, .slice a1 n c1, .bool false, .slice b1 m d1] 49)).alloc (by simp) (.cells #[.bool false, .slice a2 n c2, .bool false, .slice b2 m d2] 49))
 have HX1 := hid ((BoxN.new w #[.bool false, .slice a1 n c1, .bool false, .slice b1 m d1] 49).alloc (.cells #[.bool false, .slice a2 n c2, .bool false, .slice b2 m d2] 49))
 have hx2 := BoxN.new (w.alloc (.cells #[.bool false, .slice a1 n c1, .bool false, .slice b1 m d1] 49)) #[.bool false, .slice a2 n c2, .bool false, .slice b2 m d2] 49
 rw [World.size_alloc] at hx2
 have HX2 := hid hx2
 have k0 := HX1.out.cell 0 rfl
 have k1 := HX1.out.cell 1 rfl
 have k2 := HX1.out.cell 2 rfl
 have k3 := HX1.out.cell 3 rfl
 have j0 := HX2.out.cell 0 rfl
 have j1 := HX2.out.cell 1 rfl
 have j2 := HX2.out.cell 2 rfl
 have j3 := HX2.out.cell 3 rfl
 clear hx2
 go_enter Tryz.func21, Tryz.ntmps21
 go_wp2_with fail
 generalize (w.alloc (.cells #[.bool false, .slice a1 n c1, .bool false, .slice b1 m d1] 49)).alloc (.cells #[.bool false, .slice a2 n c2, .bool false, .slice b2 m d2] 49) = W0 at *
 with_reducible refine (HS1.out _ HB0.out).mono ?_
 clear k0 k1 k2 k3 j0 j1 j2 j3
 rintro e w1 ⟨rfl, hb1⟩
 have HB1 := hid (HB0.out.trans (hb1.mono HB0.out.size))
 have k0 := (HX1.out.below hb1 HX1.out.lt).cell 2 rfl
 have k1 := (HX1.out.below hb1 HX1.out.lt).cell 3 rfl
 have j0 := (HX2.out.below hb1 HX2.out.lt).cell 2 rfl
 have j1 := (HX2.out.below hb1 HX2.out.lt).cell 3 rfl
 clear hb1
 go_wp2_with fail
 with_reducible refine (HS2.out _ HB1.out).mono ?_
 rintro e w2 ⟨rfl, hb2⟩
 have HB2 := hid (HB1.out.trans (hb2.mono HB1.out.size))
 clear hb2 k0 k1 j0 j1
 go_wp2_with fail
 go_ret
 exact ⟨rfl, HB2.out⟩
end Go.Proofs.YthblaeleogdfpaaGreatDoor.Fr

namespace Go.Proofs.YthblaeleogdfpaaGreatDoor
open Go.RowKit Go.Shelf
def denS (xs ys : List Co) : Nat := max (max (rowsC xs) (rowsC ys)) 1
theorem commonL_le_rows (xs ys : List Co) : commonL xs ys ≤ rowsC xs := by
 unfold commonL
 split
 ·refine Nat.le_trans (comL_le_left _ _) ?_
  simp [rowsOf, rowsC, rowsN]
 ·exact Nat.zero_le _
set_option maxRecDepth 100000 in
set_option maxHeartbeats 4000000 in
theorem copies_Score (ta tb : Ta) (v u : Value) (B : Nat) (w : World) (h1 : TabV ta) (h2 : TabV tb) (hv : RdCo w (· < B) v ta.cols) (hu : RdCo w (· < B) u tb.cols) (hB : B ≤ w.heap.size) (hT : Tabs w) (hP : Pow w) :
  Calls Tryz.prog 18 #[.agg #[.int .i64 ta.id, .string ta.name, v], .agg #[.int .i64 tb.id, .string tb.name, u]] w
   (Fr.GivesFE w false (commonL ta.cols tb.cols / Nat.gcd (commonL ta.cols tb.cols) (denS ta.cols tb.cols)) (denS ta.cols tb.cols / Nat.gcd (commonL ta.cols tb.cols) (denS ta.cols tb.cols)) (.int .i64 0)) := by
 have HCO := hid (fun W (hW : Below w.heap.size w W) => copies_Common ta tb v u B W h1 h2 (hv.keep fun p (hp : p.block < B) => hW.cell (p := p) (by omega)) (hu.keep fun p (hp : p.block < B) => hW.cell (p := p) (by omega)) (Nat.le_trans hB hW.size) (hT.below hW) (hP.below hW (Nat.le_refl _)))
 have HR1 := hid (fun W (hW : Below w.heap.size w W) => table_Rows ta.id ta.name v ta.cols B W (hv.keep fun p (hp : p.block < B) => hW.cell (p := p) (by omega)) (Nat.le_trans hB hW.size))
 have HR2 := hid (fun W (hW : Below w.heap.size w W) => table_Rows tb.id tb.name u tb.cols B W (hu.keep fun p (hp : p.block < B) => hW.cell (p := p) (by omega)) (Nat.le_trans hB hW.size))
 have hra : rowsC ta.cols ≤ 4096 := rows_le h1
 have hrb : rowsC tb.cols ≤ 4096 := rows_le h2
 have hcl : commonL ta.cols tb.cols ≤ 4096 := Nat.le_trans (commonL_le_rows _ _) hra
 have hd : 0 < denS ta.cols tb.cols := by unfold denS; omega
 have hd2 : denS ta.cols tb.cols < 4294967296 := by unfold denS; omega
 have HOF := hid (fun W => Fr.num_Of (commonL ta.cols tb.cols) (denS ta.cols tb.cols) W (by omega) hd hd2)
 have HDE : Hid (denS ta.cols tb.cols = max (max (rowsC ta.cols) (rowsC tb.cols)) 1) := hid rfl
 clear hv hu hT hP h1 h2 hd hd2
 generalize denS ta.cols tb.cols = D at *
 generalize commonL ta.cols tb.cols = C at *
 generalize rowsC ta.cols = ra at *
 generalize rowsC tb.cols = rb at *
 generalize C / Nat.gcd C D = p at *
 generalize D / Nat.gcd C D = q at *
 generalize ta.id = i1 at *
 generalize tb.id = i2 at *
 generalize ta.name = n1 at *
 generalize tb.name = n2 at *
 have HB0 := hid (((((Below.refl w.heap.size w).alloc (Nat.le_refl _) (.cells #[.int .i64 i1, .string n1, v] 24)).alloc (by simp) (.cells #[.int .i64 i2, .string n2, u] 24))).alloc (by simp; omega) (.cells #[.bool false, .slice none 0 0, .bool false, .slice none 0 0] 49))
 have HX1 := hid (((BoxN.new w #[.int .i64 i1, .string n1, v] 24).alloc (.cells #[.int .i64 i2, .string n2, u] 24)).alloc (.cells #[.bool false, .slice none 0 0, .bool false, .slice none 0 0] 49))
 have hx2 := (BoxN.new (w.alloc (.cells #[.int .i64 i1, .string n1, v] 24)) #[.int .i64 i2, .string n2, u] 24).alloc (.cells #[.bool false, .slice none 0 0, .bool false, .slice none 0 0] 49)
 rw [World.size_alloc] at hx2
 have HX2 := hid hx2
 have hx3 := BoxN.new ((w.alloc (.cells #[.int .i64 i1, .string n1, v] 24)).alloc (.cells #[.int .i64 i2, .string n2, u] 24)) #[.bool false, .slice none 0 0, .bool false, .slice none 0 0] 49
 rw [World.size_alloc, World.size_alloc] at hx3
 have HX3 := hid hx3
 have hz : (((w.alloc (.cells #[.int .i64 i1, .string n1, v] 24)).alloc (.cells #[.int .i64 i2, .string n2, u] 24)).alloc (.cells #[.bool false, .slice none 0 0, .bool false, .slice none 0 0] 49)).heap.size = w.heap.size + 3 := by simp
 have c0 := HX1.out.cell 0 rfl
 have c1 := HX1.out.cell 1 rfl
 have c2 := HX1.out.cell 2 rfl
 have d0 := HX2.out.cell 0 rfl
 have d1 := HX2.out.cell 1 rfl
 have d2 := HX2.out.cell 2 rfl
 clear hx2 hx3
 go_enter Tryz.func18, Tryz.ntmps18
 go_wp2_with fail
 generalize (((w.alloc (.cells #[.int .i64 i1, .string n1, v] 24)).alloc (.cells #[.int .i64 i2, .string n2, u] 24)).alloc (.cells #[.bool false, .slice none 0 0, .bool false, .slice none 0 0] 49)) = W0 at *
 with_reducible refine (HCO.out _ HB0.out).mono ?_
 clear c0 c1 c2 d0 d1 d2
 rintro e w1 ⟨rfl, hb1⟩
 have HB1 := hid (HB0.out.trans (hb1.mono HB0.out.size))
 have HX11 := hid (HX1.out.below hb1 HX1.out.lt)
 have HX21 := hid (HX2.out.below hb1 HX2.out.lt)
 have HX31 := hid (HX3.out.below hb1 HX3.out.lt)
 have hz1 := hb1.size
 clear hb1
 have c0 := HX11.out.cell 0 rfl
 have c1 := HX11.out.cell 1 rfl
 have c2 := HX11.out.cell 2 rfl
 have d0 := HX21.out.cell 0 rfl
 have d1 := HX21.out.cell 1 rfl
 have d2 := HX21.out.cell 2 rfl
 have HC1 := hid (Below.refl w1.heap.size w1)
 have HQ1 := hid (fun W (hW : Below w1.heap.size w1 W) => HR1.out W (HB1.out.trans (hW.mono HB1.out.size)))
 have HQ2 := hid (fun W (hW : Below w1.heap.size w1 W) => HR2.out W (HB1.out.trans (hW.mono HB1.out.size)))
 have HG := hid (fun W (hW : Below w1.heap.size w1 W) => (⟨(HX11.out.below hW HX11.out.lt).cell 0 rfl, (HX11.out.below hW HX11.out.lt).cell 1 rfl, (HX11.out.below hW HX11.out.lt).cell 2 rfl, (HX21.out.below hW HX21.out.lt).cell 0 rfl, (HX21.out.below hW HX21.out.lt).cell 1 rfl, (HX21.out.below hW HX21.out.lt).cell 2 rfl⟩ : W.cell? ⟨w.heap.size, 0, none⟩ = some (.int .i64 i1) ∧ W.cell? ⟨w.heap.size, 1, none⟩ = some (.string n1) ∧ W.cell? ⟨w.heap.size, 2, none⟩ = some v ∧ W.cell? ⟨w.heap.size + 1, 0, none⟩ = some (.int .i64 i2) ∧ W.cell? ⟨w.heap.size + 1, 1, none⟩ = some (.string n2) ∧ W.cell? ⟨w.heap.size + 1, 2, none⟩ = some u))
 have HE : Hid ((if (if ra < rb then (rb : Int) else (ra : Int)) < 1 then (1 : Int) else if ra < rb then (rb : Int) else (ra : Int)) = (D : Int)) := hid (by rw [HDE.out]; omega)
 go_upto_region 4 with fail
 go_region_held3 (fun w' => w'.cell? ⟨w.heap.size, 0, none⟩ = some (.int .i64 i1) ∧ w'.cell? ⟨w.heap.size, 1, none⟩ = some (.string n1) ∧ w'.cell? ⟨w.heap.size, 2, none⟩ = some v ∧ w'.cell? ⟨w.heap.size + 1, 0, none⟩ = some (.int .i64 i2) ∧ w'.cell? ⟨w.heap.size + 1, 1, none⟩ = some (.string n2) ∧ w'.cell? ⟨w.heap.size + 1, 2, none⟩ = some u)
  (first | exact HG.out _ (Below.refl _ _) | exact HG.out _ HC5.out | exact HG.out _ HC6.out | exact HG.out _ HC7.out | ((repeat rw [World.cell?_setCell_other _ _ _ _ (by intro e; injection e with e; omega)]); exact HG.out _ HC7.out) | go_keep)
  (first
   | (go_at_call 54; go_must (first
     | ((with_reducible refine (HQ1.out _ (by first | (have h1 := HC6.out; have h2 := HC6.out.size; repeat' (first | (with_reducible exact Below.refl _ _) | (with_reducible assumption) | (with_reducible refine below_drewN ?_) | (with_reducible refine Below.alloc ?_ ?_ _) | (with_reducible refine Below.drew ?_) | (with_reducible refine Below.setCell ?_ ?_ _) | (with_reducible refine Below.trans ?_ (Below.mono (by with_reducible assumption) ?_)) | go_size)) | (have h1 := HC1.out; have h2 := HC1.out.size; repeat' (first | (with_reducible exact Below.refl _ _) | (with_reducible assumption) | (with_reducible refine below_drewN ?_) | (with_reducible refine Below.alloc ?_ ?_ _) | (with_reducible refine Below.drew ?_) | (with_reducible refine Below.setCell ?_ ?_ _) | (with_reducible refine Below.trans ?_ (Below.mono (by with_reducible assumption) ?_)) | go_size)))).mono ?_); rintro e w5 ⟨rfl, hb5⟩; have HC5 : Hid (Below w1.heap.size w1 w5) := hid (by first | (have h1 := HC6.out; have h2 := HC6.out.size; repeat' (first | (with_reducible exact Below.refl _ _) | (with_reducible assumption) | (with_reducible refine below_drewN ?_) | (with_reducible refine Below.alloc ?_ ?_ _) | (with_reducible refine Below.drew ?_) | (with_reducible refine Below.setCell ?_ ?_ _) | (with_reducible refine Below.trans ?_ (Below.mono (by with_reducible assumption) ?_)) | go_size)) | (have h1 := HC1.out; have h2 := HC1.out.size; repeat' (first | (with_reducible exact Below.refl _ _) | (with_reducible assumption) | (with_reducible refine below_drewN ?_) | (with_reducible refine Below.alloc ?_ ?_ _) | (with_reducible refine Below.drew ?_) | (with_reducible refine Below.setCell ?_ ?_ _) | (with_reducible refine Below.trans ?_ (Below.mono (by with_reducible assumption) ?_)) | go_size))); clear hb5)
     | ((with_reducible refine (HQ2.out _ (by first | (have h1 := HC5.out; have h2 := HC5.out.size; repeat' (first | (with_reducible exact Below.refl _ _) | (with_reducible assumption) | (with_reducible refine below_drewN ?_) | (with_reducible refine Below.alloc ?_ ?_ _) | (with_reducible refine Below.drew ?_) | (with_reducible refine Below.setCell ?_ ?_ _) | (with_reducible refine Below.trans ?_ (Below.mono (by with_reducible assumption) ?_)) | go_size)) | (have h1 := HC1.out; have h2 := HC1.out.size; repeat' (first | (with_reducible exact Below.refl _ _) | (with_reducible assumption) | (with_reducible refine below_drewN ?_) | (with_reducible refine Below.alloc ?_ ?_ _) | (with_reducible refine Below.drew ?_) | (with_reducible refine Below.setCell ?_ ?_ _) | (with_reducible refine Below.trans ?_ (Below.mono (by with_reducible assumption) ?_)) | go_size)))).mono ?_); rintro e w6 ⟨rfl, hb6⟩; have HC6 : Hid (Below w1.heap.size w1 w6) := hid (by first | (have h1 := HC5.out; have h2 := HC5.out.size; repeat' (first | (with_reducible exact Below.refl _ _) | (with_reducible assumption) | (with_reducible refine below_drewN ?_) | (with_reducible refine Below.alloc ?_ ?_ _) | (with_reducible refine Below.drew ?_) | (with_reducible refine Below.setCell ?_ ?_ _) | (with_reducible refine Below.trans ?_ (Below.mono (by with_reducible assumption) ?_)) | go_size)) | (have h1 := HC1.out; have h2 := HC1.out.size; repeat' (first | (with_reducible exact Below.refl _ _) | (with_reducible assumption) | (with_reducible refine below_drewN ?_) | (with_reducible refine Below.alloc ?_ ?_ _) | (with_reducible refine Below.drew ?_) | (with_reducible refine Below.setCell ?_ ?_ _) | (with_reducible refine Below.trans ?_ (Below.mono (by with_reducible assumption) ?_)) | go_size))); clear hb6)))
   | (go_at_call 59; go_must (rw [HE.out]; (with_reducible refine (HOF.out _).mono ?_); rintro e w7 ⟨x4, y4, x5, y5, rfl, hN, hb7⟩; have HC7 : Hid (Below w1.heap.size w1 w7) := hid (by first | (have h1 := HC6.out; have h2 := HC6.out.size; repeat' (first | (with_reducible exact Below.refl _ _) | (with_reducible assumption) | (with_reducible refine below_drewN ?_) | (with_reducible refine Below.alloc ?_ ?_ _) | (with_reducible refine Below.drew ?_) | (with_reducible refine Below.setCell ?_ ?_ _) | (with_reducible refine Below.trans ?_ (Below.mono (by with_reducible assumption) ?_)) | go_size)) | (have h1 := HC5.out; have h2 := HC5.out.size; repeat' (first | (with_reducible exact Below.refl _ _) | (with_reducible assumption) | (with_reducible refine below_drewN ?_) | (with_reducible refine Below.alloc ?_ ?_ _) | (with_reducible refine Below.drew ?_) | (with_reducible refine Below.setCell ?_ ?_ _) | (with_reducible refine Below.trans ?_ (Below.mono (by with_reducible assumption) ?_)) | go_size))); have HN : Hid (Fr.NewF w1.heap.size w7 x4 y4 x5 y5 p q) := hid (hN.mono (by first | (have h1 := HC6.out.size; omega) | (have h1 := HC5.out.size; omega))); have f0 := (HX31.out.below HC7.out HX31.out.lt).frozen 0; have f1 := (HX31.out.below HC7.out HX31.out.lt).frozen 1; have f2 := (HX31.out.below HC7.out HX31.out.lt).frozen 2; have f3 := (HX31.out.below HC7.out HX31.out.lt).frozen 3; have m0 := (HX31.out.below HC7.out HX31.out.lt).cell 0 rfl; have m1 := (HX31.out.below HC7.out HX31.out.lt).cell 1 rfl; have m2 := (HX31.out.below HC7.out HX31.out.lt).cell 2 rfl; have m3 := (HX31.out.below HC7.out HX31.out.lt).cell 3 rfl; clear hb7 hN)))
 all_goals
  have hrl := HX31.out.lt
  go_wp2
  refine bodyPost_ret (by simp [results, Tryz.results18, go_sem, m0, m1, m2, m3]; rfl) rfl ?_
  refine ⟨x4, y4, x5, y5, by first | rfl | simp, ((((HN.out.setCell hrl).setCell hrl).setCell hrl).setCell hrl).mono (by omega), ?_⟩
  have h1 := HB1.out.trans (HC7.out.mono HB1.out.size)
  exact (((h1.setCell (p := ⟨w.heap.size + 2, 0, none⟩) (by show w.heap.size ≤ w.heap.size + 2; omega) _).setCell (p := ⟨w.heap.size + 2, 1, none⟩) (by show w.heap.size ≤ w.heap.size + 2; omega) _).setCell (p := ⟨w.heap.size + 2, 2, none⟩) (by show w.heap.size ≤ w.heap.size + 2; omega) _).setCell (p := ⟨w.heap.size + 2, 3, none⟩) (by show w.heap.size ≤ w.heap.size + 2; omega) _
end Go.Proofs.YthblaeleogdfpaaGreatDoor

namespace Go.Proofs.YthblaeleogdfpaaGreatDoor
open Go.RowKit
def tpP (qc : List Co) (t : Ta) : Nat := commonL qc t.cols / Nat.gcd (commonL qc t.cols) (denS qc t.cols)
def tpQ (qc : List Co) (t : Ta) : Nat := denS qc t.cols / Nat.gcd (commonL qc t.cols) (denS qc t.cols)
theorem tpQ_pos (qc : List Co) (t : Ta) : 0 < tpQ qc t := by
 have hd : 0 < denS qc t.cols := by unfold denS; omega
 exact Nat.div_pos (Nat.gcd_le_right _ hd) (Nat.gcd_pos_of_pos_right _ hd)
def tabI (ts : List Ta) (i : Int) : Ta := (ts.find? fun t => decide (t.id = i)).getD Ta.z
theorem tabI_at {ts : List Ta} (h : ts.Pairwise (fun a b => a.id < b.id)) {j : Nat} (hj : j < ts.length) : tabI ts (ts.getD j Ta.z).id = ts.getD j Ta.z := by
 unfold tabI
 induction ts generalizing j with
 | nil => exact absurd hj (by simp)
 | cons t l ih =>
  rw [List.pairwise_cons] at h
  cases j with
  | zero => simp
  | succ j =>
   have hj2 : j < l.length := by simpa using hj
   have h1 := h.1 _ (getD_mem hj2 Ta.z)
   rw [show (t :: l).getD (j + 1) Ta.z = l.getD j Ta.z by simp, List.find?_cons]
   rw [show decide (t.id = (l.getD j Ta.z).id) = false from decide_eq_false (by omega)]
   exact ih h.2 hj2
def idsP (ts : List Ta) (qc : List Co) : List Int := (ts.filter fun t => decide (0 < tpP qc t)).map Ta.id
theorem idsP_succ {ts : List Ta} {qc : List Co} {q : Nat} (h : q < ts.length) : idsP (ts.take (q + 1)) qc = if 0 < tpP qc (ts.getD q Ta.z) then idsP (ts.take q) qc ++ [(ts.getD q Ta.z).id] else idsP (ts.take q) qc := by
 have e : ts.getD q Ta.z = ts[q] := by simp [List.getD, h]
 unfold idsP
 rw [List.take_succ_eq_append_getElem h, List.filter_append, List.map_append, e]
 by_cases hp : 0 < tpP qc ts[q]
 ·rw [if_pos hp]; simp [hp]
 ·rw [if_neg hp]; simp [hp]
theorem idsP_mem {ts : List Ta} {qc : List Co} {q : Nat} {i : Int} (hi : i ∈ idsP (ts.take q) qc) : ∃ j, j < q ∧ j < ts.length ∧ i = (ts.getD j Ta.z).id := by
 unfold idsP at hi
 obtain ⟨t, ht, rfl⟩ := List.mem_map.1 hi
 obtain ⟨j, hj, e⟩ := List.getElem_of_mem (List.mem_filter.1 ht).1
 rw [List.length_take] at hj
 rw [List.getElem_take] at e
 exact ⟨j, by omega, by omega, by rw [← e]; simp [List.getD, show j < ts.length by omega]⟩
def leS (ts : List Ta) (qc : List Co) (a b : Int) : Prop := tpP qc (tabI ts a) * tpQ qc (tabI ts b) ≤ tpP qc (tabI ts b) * tpQ qc (tabI ts a)
theorem leS_trans {ts : List Ta} {qc : List Co} {a b c : Int} (h1 : leS ts qc a b) (h2 : leS ts qc b c) : leS ts qc a c := by
 unfold leS at *
 generalize ha : tpP qc (tabI ts a) = pa at *
 generalize hb : tpP qc (tabI ts b) = pb at *
 generalize hc : tpP qc (tabI ts c) = pc at *
 have hq := tpQ_pos qc (tabI ts b)
 generalize tpQ qc (tabI ts a) = qa at *
 generalize tpQ qc (tabI ts b) = qb at *
 generalize tpQ qc (tabI ts c) = qc' at *
 refine Nat.le_of_mul_le_mul_right ?_ hq
 calc pa * qc' * qb = pa * qb * qc' := by rw [Nat.mul_right_comm]
  _ ≤ pb * qa * qc' := Nat.mul_le_mul_right _ h1
  _ = pb * qc' * qa := by rw [Nat.mul_right_comm]
  _ ≤ pc * qb * qa := Nat.mul_le_mul_right _ h2
  _ = pc * qa * qb := by rw [Nat.mul_right_comm]
def befS (ts : List Ta) (qc : List Co) (a b : Int) : Prop := leS ts qc b a ∧ (leS ts qc a b → a ≤ b)
theorem befS_unique {ts : List Ta} {qc : List Co} {l m : List Int} (hp : l.Perm m) (hl : l.Pairwise (befS ts qc)) (hm : m.Pairwise (befS ts qc)) : l = m :=
 hp.eq_of_pairwise (fun a b _ _ h1 h2 => by have := h1.2 h2.1; have := h2.2 h1.1; omega) hl hm
def putI {α : Type} (l : List α) (i : Nat) (s : α) : List α := l.take i ++ s :: l.drop i
theorem putI_perm {α : Type} (l : List α) (i : Nat) (s : α) : (putI l i s).Perm (l ++ [s]) := by
 unfold putI
 refine (List.perm_middle).trans ?_
 rw [List.take_append_drop]
 exact (List.perm_append_singleton s l).symm
theorem putI_len {α : Type} {l : List α} {i : Nat} (hi : i ≤ l.length) (s : α) : (putI l i s).length = l.length + 1 := by
 unfold putI; rw [List.length_append, List.length_cons, List.length_take, List.length_drop]; omega
theorem putI_map {α β : Type} (f : α → β) (l : List α) (i : Nat) (s : α) : (putI l i s).map f = putI (l.map f) i (f s) := by
 unfold putI; rw [List.map_append, List.map_cons, List.map_take, List.map_drop]
theorem putI_bef {ts : List Ta} {qc : List Co} {l : List Int} {i : Nat} {s : Int} (hl : l.Pairwise (befS ts qc)) (hi : i ≤ l.length) (hs : ∀ a ∈ l, a < s)
  (h1 : ∀ j, i ≤ j → j < l.length → ¬ leS ts qc s (l.getD j 0)) (h2 : 0 < i → leS ts qc s (l.getD (i - 1) 0)) : (putI l i s).Pairwise (befS ts qc) := by
 have htot : ∀ a b, leS ts qc a b ∨ leS ts qc b a := fun a b => Nat.le_total _ _
 unfold putI
 rw [List.pairwise_append, List.pairwise_cons]
 have hdrop : ∀ b ∈ l.drop i, befS ts qc s b := fun b hb => by
  obtain ⟨k, hk, rfl⟩ := List.getElem_of_mem hb
  rw [List.length_drop] at hk
  have e : (l.drop i)[k]'(by rw [List.length_drop]; exact hk) = l.getD (i + k) 0 := by simp [List.getD, show i + k < l.length by omega]
  rw [e]
  have h3 := h1 (i + k) (by omega) (by omega)
  exact ⟨(htot _ _).resolve_left h3, fun h => absurd h h3⟩
 have htake : ∀ a ∈ l.take i, leS ts qc s a ∧ a < s := fun a ha => by
  obtain ⟨k, hk, rfl⟩ := List.getElem_of_mem ha
  rw [List.length_take] at hk
  have e : (l.take i)[k]'(by rw [List.length_take]; exact hk) = l[k]'(by omega) := List.getElem_take
  rw [e]
  refine ⟨?_, hs _ (List.getElem_mem _)⟩
  have h3 := h2 (by omega)
  have e2 : l.getD (i - 1) 0 = l[i - 1]'(by omega) := by simp [List.getD, show i - 1 < l.length by omega]
  rw [e2] at h3
  by_cases hk1 : k = i - 1
  ·subst hk1; exact h3
  ·exact leS_trans h3 (List.pairwise_iff_getElem.1 hl k (i - 1) (by omega) (by omega) (by omega)).1
 refine ⟨hl.sublist (List.take_sublist _ _), ⟨hdrop, hl.sublist (List.drop_sublist _ _)⟩, fun a ha b hb => ?_⟩
 rcases List.mem_cons.1 hb with rfl | hb
 ·exact ⟨(htake a ha).1, fun _ => by have := (htake a ha).2; omega⟩
 ·have h4 := hl
  rw [← List.take_append_drop i l, List.pairwise_append] at h4
  exact h4.2.2 a ha b hb
end Go.Proofs.YthblaeleogdfpaaGreatDoor

namespace Go.Proofs
open Go.Shelf
def Tryz.sortMatch_ren : Go.Shelf.Ren := ⟨fun | 6 => 137 | 15 => 96 | 14 => 196 | 28 => 150 | 29 => 151 | 20 => 250 | 21 => 251 | 22 => 252 | 23 => 253 | 24 => 254 | 25 => 255 | 26 => 256 | 27 => 257 | 46 => 281 | 47 => 200 | 48 => 201 | 49 => 282 | 50 => 283 | 57 => 293 | n => n, fun | 22 => 81 | 24 => 135 | 25 => 137 | 3 => 3 | 39 => 143 | 0 => 0 | 53 => 157 | 55 => 194 | 4 => 4 | 46 => 186 | 45 => 185 | 50 => 172 | 5 => 5 | 9 => 9 | 66 => 221 | 70 => 225 | 76 => 270 | 77 => 271 | n => n, fun | n => n⟩
theorem Tryz.sortMatch : Go.Proofs.SlLaysF0.n6 Tryz.prog Tryz.sortMatch_ren := {
 mixed := by kernel_rfl
 f6 := ⟨Tryz.f137.name, by decide, Tryz.func137.trans (congrArg some (by kernel_rfl))⟩
 f14 := ⟨Tryz.f196.name, by decide, Tryz.func196.trans (congrArg some (by kernel_rfl))⟩
 f15 := Tryz.func96.trans (congrArg some (by kernel_rfl))
 f20 := ⟨Tryz.f250.name, by decide, Tryz.func250.trans (congrArg some (by kernel_rfl))⟩
 f21 := ⟨Tryz.f251.name, by decide, Tryz.func251.trans (congrArg some (by kernel_rfl))⟩
 f22 := ⟨Tryz.f252.name, by decide, Tryz.func252.trans (congrArg some (by kernel_rfl))⟩
 f23 := ⟨Tryz.f253.name, by decide, Tryz.func253.trans (congrArg some (by kernel_rfl))⟩
 f24 := ⟨Tryz.f254.name, by decide, Tryz.func254.trans (congrArg some (by kernel_rfl))⟩
 f25 := ⟨Tryz.f255.name, by decide, Tryz.func255.trans (congrArg some (by kernel_rfl))⟩
 f26 := ⟨Tryz.f256.name, by decide, Tryz.func256.trans (congrArg some (by kernel_rfl))⟩
 f27 := ⟨Tryz.f257.name, by decide, Tryz.func257.trans (congrArg some (by kernel_rfl))⟩
 f28 := Tryz.func150.trans (congrArg some (by kernel_rfl))
 f29 := Tryz.func151.trans (congrArg some (by kernel_rfl))
 f46 := ⟨Tryz.f281.name, by decide, Tryz.func281.trans (congrArg some (by kernel_rfl))⟩
 f47 := Tryz.func200.trans (congrArg some (by kernel_rfl))
 f48 := Tryz.func201.trans (congrArg some (by kernel_rfl))
 f49 := ⟨Tryz.f282.name, by decide, Tryz.func282.trans (congrArg some (by kernel_rfl))⟩
 f50 := ⟨Tryz.f283.name, by decide, Tryz.func283.trans (congrArg some (by kernel_rfl))⟩
 f57 := ⟨Tryz.f293.name, by decide, Tryz.func293.trans (congrArg some (by kernel_rfl))⟩
 t0 := Tryz.underlying0
 a0 := Tryz.isAgg0
 z0 := Tryz.sizeOf0
 v0 := Tryz.zeroValue0
 t3 := Tryz.underlying3
 a3 := Tryz.isAgg3
 z3 := Tryz.sizeOf3
 v3 := Tryz.zeroValue3
 t4 := Tryz.underlying4
 a4 := Tryz.isAgg4
 z4 := Tryz.sizeOf4
 v4 := Tryz.zeroValue4
 t5 := Tryz.underlying5
 a5 := Tryz.isAgg5
 z5 := Tryz.sizeOf5
 v5 := Tryz.zeroValue5
 t9 := Tryz.underlying9
 a9 := Tryz.isAgg9
 z9 := Tryz.sizeOf9
 v9 := Tryz.zeroValue9
 t22 := Tryz.underlying81
 a22 := Tryz.isAgg81
 z22 := Tryz.sizeOf81
 v22 := Tryz.zeroValue81
 t25 := Tryz.underlying137
 a25 := Tryz.isAgg137
 z25 := Tryz.sizeOf137
 v25 := Tryz.zeroValue137
 t39 := Tryz.underlying143
 a39 := Tryz.isAgg143
 z39 := Tryz.sizeOf143
 v39 := Tryz.zeroValue143
 t45 := Tryz.underlying185
 a45 := Tryz.isAgg185
 z45 := Tryz.sizeOf185
 v45 := Tryz.zeroValue185
 t46 := Tryz.underlying186
 a46 := Tryz.isAgg186
 z46 := Tryz.sizeOf186
 v46 := Tryz.zeroValue186
 t50 := Tryz.underlying172
 a50 := Tryz.isAgg172
 z50 := Tryz.sizeOf172
 v50 := Tryz.zeroValue172
 t53 := Tryz.underlying157
 a53 := Tryz.isAgg157
 z53 := Tryz.sizeOf157
 v53 := Tryz.zeroValue157
 t55 := Tryz.underlying194
 a55 := Tryz.isAgg194
 z55 := Tryz.sizeOf194
 v55 := Tryz.zeroValue194
 t66 := Tryz.underlying221
 a66 := Tryz.isAgg221
 z66 := Tryz.sizeOf221
 v66 := Tryz.zeroValue221
 t70 := Tryz.underlying225
 a70 := Tryz.isAgg225
 z70 := Tryz.sizeOf225
 v70 := Tryz.zeroValue225
 t76 := Tryz.underlying270
 a76 := Tryz.isAgg270
 z76 := Tryz.sizeOf270
 v76 := Tryz.zeroValue270
 t77 := Tryz.underlying271
 a77 := Tryz.isAgg271
 z77 := Tryz.sizeOf271
 v77 := Tryz.zeroValue271 }
end Go.Proofs
