/- Contracts of num.Of and of the reference's Part and Same (at equal fractions). Contract of copies.Score, at valid tables. -/
import Derived.Test.YthblaeleogdfpaaGreatDoorCPaav
import Derived.Test.YthblaeleogdfpaaGreatDoorCPaax
import Derived.Test.YthblaeleogdfpaaGreatDoorCPaan
import Derived.Deep.RegionHeld3
import Derived.Test.YthblaeleogdfpaaGreatDoorCPaaj
set_option linter.unusedVariables false
set_option linter.unusedSimpArgs false
namespace Go.Proofs.YthblaeleogdfpaaGreatDoor.Fr
open Go.RowKit
set_option maxRecDepth 100000 in
set_option maxHeartbeats 4000000 in
theorem num_Of (n d : Nat) (w : World) (hn : n < 9223372036854775808) (hd : 0 < d) (hd2 : d < 4294967296) :
    Calls Tryz.prog 59 #[.int .i64 (n : Int), .int .i64 (d : Int)] w (GivesF w false (n / Nat.gcd n d) (d / Nat.gcd n d)) := by
  have HOF := hid (fun W => frac_Of1 n d W hn hd hd2)
  generalize n / Nat.gcd n d = p at *
  generalize d / Nat.gcd n d = q at *
  go_enter Tryz.func59, Tryz.ntmps59
  go_wp2_with fail
  refine (HOF.out _).mono ?_
  rintro e w3 ⟨a3, c3, a4, c4, rfl, hN, hb3⟩
  have HN := hid hN
  have HB3 := hid hb3
  have hz3 := hb3.size
  have m0 := cell_later hb3 (a := ⟨w.heap.size, 0, none⟩) (v := .bool false) (by go_cell)
  have m1 := cell_later hb3 (a := ⟨w.heap.size, 1, none⟩) (v := .slice none 0 0) (by go_cell)
  have m2 := cell_later hb3 (a := ⟨w.heap.size, 2, none⟩) (v := .bool false) (by go_cell)
  have m3 := cell_later hb3 (a := ⟨w.heap.size, 3, none⟩) (v := .slice none 0 0) (by go_cell)
  have fm0 := frozen_later hb3 (a := ⟨w.heap.size, 0, none⟩) (v := .bool false) (by go_cell) (by simp [go_sem])
  have fm1 := frozen_later hb3 (a := ⟨w.heap.size, 1, none⟩) (v := .slice none 0 0) (by go_cell) (by simp [go_sem])
  have fm2 := frozen_later hb3 (a := ⟨w.heap.size, 2, none⟩) (v := .bool false) (by go_cell) (by simp [go_sem])
  have fm3 := frozen_later hb3 (a := ⟨w.heap.size, 3, none⟩) (v := .slice none 0 0) (by go_cell) (by simp [go_sem])
  clear hN hb3
  simp at hz3
  have hlt : w.heap.size < w3.heap.size := by omega
  have hne : w.heap.size ≠ w3.heap.size := by omega
  go_wp2
  refine bodyPost_ret (by simp [results, Tryz.results59, go_sem, m0, m1, m2, m3, hne, hlt]; rfl) rfl ?_
  exact ⟨a3, c3, a4, c4, by first | rfl | simp, (((((HN.out.setCell (by simp)).setCell (by simp)).setCell (by simp)).setCell (by simp)).kept ((Below.refl _ _).alloc (Nat.le_refl _) _)).mono (by simp), by have h3 := HB3.out; repeat' (first | (with_reducible exact Below.refl _ _) | (with_reducible assumption) | (with_reducible refine below_drewN ?_) | (with_reducible refine Below.alloc ?_ ?_ _) | (with_reducible refine Below.drew ?_) | (with_reducible refine Below.setCell ?_ ?_ _) | (with_reducible refine Below.trans ?_ (Below.mono (by with_reducible assumption) ?_)) | go_size)⟩
set_option maxRecDepth 100000 in
set_option maxHeartbeats 4000000 in
theorem ref_Part (n d : Nat) (w : World) (hn : n < 9223372036854775808) (hd : 0 < d) (hd2 : d < 9223372036854775808) :
    Calls Tryz.prog 34 #[.int .i64 (n : Int), .int .i64 (d : Int)] w (GivesF w false (n / Nat.gcd n d) (d / Nat.gcd n d)) := by
  have HOF := hid (fun W => ref_Of n d W hn hd hd2)
  generalize n / Nat.gcd n d = p at *
  generalize d / Nat.gcd n d = q at *
  go_enter Tryz.func34, Tryz.ntmps34
  go_wp2_with fail
  refine (HOF.out _).mono ?_
  rintro e w3 ⟨a3, c3, a4, c4, rfl, hN, hb3⟩
  have HN := hid hN
  have HB3 := hid hb3
  have hz3 := hb3.size
  have m0 := cell_later hb3 (a := ⟨w.heap.size, 0, none⟩) (v := .bool false) (by go_cell)
  have m1 := cell_later hb3 (a := ⟨w.heap.size, 1, none⟩) (v := .slice none 0 0) (by go_cell)
  have m2 := cell_later hb3 (a := ⟨w.heap.size, 2, none⟩) (v := .bool false) (by go_cell)
  have m3 := cell_later hb3 (a := ⟨w.heap.size, 3, none⟩) (v := .slice none 0 0) (by go_cell)
  have fm0 := frozen_later hb3 (a := ⟨w.heap.size, 0, none⟩) (v := .bool false) (by go_cell) (by simp [go_sem])
  have fm1 := frozen_later hb3 (a := ⟨w.heap.size, 1, none⟩) (v := .slice none 0 0) (by go_cell) (by simp [go_sem])
  have fm2 := frozen_later hb3 (a := ⟨w.heap.size, 2, none⟩) (v := .bool false) (by go_cell) (by simp [go_sem])
  have fm3 := frozen_later hb3 (a := ⟨w.heap.size, 3, none⟩) (v := .slice none 0 0) (by go_cell) (by simp [go_sem])
  clear hN hb3
  simp at hz3
  have hlt : w.heap.size < w3.heap.size := by omega
  have hne : w.heap.size ≠ w3.heap.size := by omega
  go_wp2
  refine bodyPost_ret (by simp [results, Tryz.results34, go_sem, m0, m1, m2, m3, hne, hlt]; rfl) rfl ?_
  exact ⟨a3, c3, a4, c4, by first | rfl | simp, (((((HN.out.setCell (by simp)).setCell (by simp)).setCell (by simp)).setCell (by simp)).kept ((Below.refl _ _).alloc (Nat.le_refl _) _)).mono (by simp), by have h3 := HB3.out; repeat' (first | (with_reducible exact Below.refl _ _) | (with_reducible assumption) | (with_reducible refine below_drewN ?_) | (with_reducible refine Below.alloc ?_ ?_ _) | (with_reducible refine Below.drew ?_) | (with_reducible refine Below.setCell ?_ ?_ _) | (with_reducible refine Below.trans ?_ (Below.mono (by with_reducible assumption) ?_)) | go_size)⟩
set_option maxRecDepth 100000 in
set_option maxHeartbeats 1000000 in
theorem ref_sameBig (u v : Value) (xs : List Nat) (w : World) (hx : Rd32 w u xs) (hy : Rd32 w v xs) :
    Calls Tryz.prog 60 #[.agg #[.bool false, u], .agg #[.bool false, v]] w (Ret w (.bool true)) := by
  obtain ⟨a, c, rfl, hc, hm, hxr, hxc⟩ := hx
  obtain ⟨a', c', rfl, hc', hm', hyr, hyc⟩ := hy
  have HXC := hid hxc
  have HYC := hid hyc
  have HXR := hid hxr
  clear hxc hyc hxr hyr
  generalize hn : xs.length = n at *
  clear hn
  unfold maxLen at hm hm'
  have HB0 := hid (((Below.refl w.heap.size w).alloc (Nat.le_refl _) (.cells #[.bool false, .slice a n c] 47)).alloc (by simp) (.cells #[.bool false, .slice a' n c'] 47))
  have HX1 := hid ((BoxN.new w #[.bool false, .slice a n c] 47).alloc (.cells #[.bool false, .slice a' n c'] 47))
  have hx2 := BoxN.new (w.alloc (.cells #[.bool false, .slice a n c] 47)) #[.bool false, .slice a' n c'] 47
  rw [World.size_alloc] at hx2
  have HX2 := hid hx2
  clear hx2
  go_enter Tryz.func60, Tryz.ntmps60
  generalize hLA : Code.loop _ = LA
  go_wp2_with fail
  subst hLA
  generalize (w.alloc (.cells #[.bool false, .slice a n c] 47)).alloc (.cells #[.bool false, .slice a' n c'] 47) = W0 at *
  have d0 := HX2.out.cell 0 rfl
  have d1 := HX2.out.cell 1 rfl
  have c0 := HX1.out.cell 0 rfl
  have c1 := HX1.out.cell 1 rfl
  go_loopg [24] n (fun N i wr => ∃ q : Nat, q + N = n ∧ i = .int .i64 (q : Int) ∧ wr = W0)
  case atStart => exact ⟨0, by omega, rfl, rfl⟩
  case round =>
    obtain ⟨q, hq, rfl, rfl⟩ := hrel
    by_cases hp : 0 < gk
    · obtain ⟨b, o, rfl, hb, h1⟩ := HXC.out (by omega)
      obtain ⟨b', o', rfl, hb', h2⟩ := HYC.out (by omega)
      have k1 := (HB0.out.cell (p := ⟨b, o + q, none⟩) hb).trans (h1 q (by omega))
      have k2 := (HB0.out.cell (p := ⟨b', o' + q, none⟩) hb').trans (h2 q (by omega))
      clear h1 h2
      generalize xs.getD q 0 = x at *
      go_wp2_with fail
      go_roundg (gk - 1)
      case rel => exact ⟨q + 1, by omega, by go_num, rfl⟩
      case measure => omega
    · obtain rfl : q = n := by omega
      go_wp2_with fail
      go_ret
      exact ⟨rfl, HB0.out⟩
set_option maxRecDepth 100000 in
set_option maxHeartbeats 1000000 in
theorem ref_Same (u v : Value) (p q : Nat) (w : World) (hu : RdF w u false p q) (hv : RdF w v false p q) :
    Calls Tryz.prog 21 #[u, v] w (Ret w (.bool true)) := by
  obtain ⟨a1, c1, b1, d1, rfl, ha1, hb1⟩ := hu
  obtain ⟨a2, c2, b2, d2, rfl, ha2, hb2⟩ := hv
  have HS1 := hid (fun W (hW : Below w.heap.size w W) => ref_sameBig _ _ (dig p) W (ha1.kept hW) (ha2.kept hW))
  have HS2 := hid (fun W (hW : Below w.heap.size w W) => ref_sameBig _ _ (dig q) W (hb1.kept hW) (hb2.kept hW))
  clear ha1 ha2 hb1 hb2
  generalize (dig p).length = n at *
  generalize (dig q).length = m at *
  have HB0 := hid (((Below.refl w.heap.size w).alloc (Nat.le_refl _) (.cells #[.bool false, .slice a1 n c1, .bool false, .slice b1 m d1] 49)).alloc (by simp) (.cells #[.bool false, .slice a2 n c2, .bool false, .slice b2 m d2] 49))
  have HX1 := hid ((BoxN.new w #[.bool false, .slice a1 n c1, .bool false, .slice b1 m d1] 49).alloc (.cells #[.bool false, .slice a2 n c2, .bool false, .slice b2 m d2] 49))
  have hx2 := BoxN.new (w.alloc (.cells #[.bool false, .slice a1 n c1, .bool false, .slice b1 m d1] 49)) #[.bool false, .slice a2 n c2, .bool false, .slice b2 m d2] 49
  rw [World.size_alloc] at hx2
  have HX2 := hid hx2
  have k0 := HX1.out.cell 0 rfl
  have k1 := HX1.out.cell 1 rfl
  have k2 := HX1.out.cell 2 rfl
  have k3 := HX1.out.cell 3 rfl
  have j0 := HX2.out.cell 0 rfl
  have j1 := HX2.out.cell 1 rfl
  have j2 := HX2.out.cell 2 rfl
  have j3 := HX2.out.cell 3 rfl
  clear hx2
  go_enter Tryz.func21, Tryz.ntmps21
  go_wp2_with fail
  generalize (w.alloc (.cells #[.bool false, .slice a1 n c1, .bool false, .slice b1 m d1] 49)).alloc (.cells #[.bool false, .slice a2 n c2, .bool false, .slice b2 m d2] 49) = W0 at *
  with_reducible refine (HS1.out _ HB0.out).mono ?_
  clear k0 k1 k2 k3 j0 j1 j2 j3
  rintro e w1 ⟨rfl, hb1⟩
  have HB1 := hid (HB0.out.trans (hb1.mono HB0.out.size))
  have k0 := (HX1.out.below hb1 HX1.out.lt).cell 2 rfl
  have k1 := (HX1.out.below hb1 HX1.out.lt).cell 3 rfl
  have j0 := (HX2.out.below hb1 HX2.out.lt).cell 2 rfl
  have j1 := (HX2.out.below hb1 HX2.out.lt).cell 3 rfl
  clear hb1
  go_wp2_with fail
  with_reducible refine (HS2.out _ HB1.out).mono ?_
  rintro e w2 ⟨rfl, hb2⟩
  have HB2 := hid (HB1.out.trans (hb2.mono HB1.out.size))
  clear hb2 k0 k1 j0 j1
  go_wp2_with fail
  go_ret
  exact ⟨rfl, HB2.out⟩
end Go.Proofs.YthblaeleogdfpaaGreatDoor.Fr

namespace Go.Proofs.YthblaeleogdfpaaGreatDoor
open Go.RowKit Go.Shelf
def denS (xs ys : List Co) : Nat := max (max (rowsC xs) (rowsC ys)) 1
theorem commonL_le_rows (xs ys : List Co) : commonL xs ys ≤ rowsC xs := by
  unfold commonL
  split
  · refine Nat.le_trans (comL_le_left _ _) ?_
    simp [rowsOf, rowsC, rowsN]
  · exact Nat.zero_le _
set_option maxRecDepth 100000 in
set_option maxHeartbeats 4000000 in
theorem copies_Score (ta tb : Ta) (v u : Value) (B : Nat) (w : World) (h1 : TabV ta) (h2 : TabV tb) (hv : RdCo w (· < B) v ta.cols) (hu : RdCo w (· < B) u tb.cols) (hB : B ≤ w.heap.size) (hT : Tabs w) (hP : Pow w) :
  Calls Tryz.prog 18 #[.agg #[.int .i64 ta.id, .string ta.name, v], .agg #[.int .i64 tb.id, .string tb.name, u]] w
   (Fr.GivesFE w false (commonL ta.cols tb.cols / Nat.gcd (commonL ta.cols tb.cols) (denS ta.cols tb.cols)) (denS ta.cols tb.cols / Nat.gcd (commonL ta.cols tb.cols) (denS ta.cols tb.cols)) (.int .i64 0)) := by
 have HCO := hid (fun W (hW : Below w.heap.size w W) => copies_Common ta tb v u B W h1 h2 (hv.keep fun p (hp : p.block < B) => hW.cell (p := p) (by omega)) (hu.keep fun p (hp : p.block < B) => hW.cell (p := p) (by omega)) (Nat.le_trans hB hW.size) (hT.below hW) (hP.below hW (Nat.le_refl _)))
 have HR1 := hid (fun W (hW : Below w.heap.size w W) => table_Rows ta.id ta.name v ta.cols B W (hv.keep fun p (hp : p.block < B) => hW.cell (p := p) (by omega)) (Nat.le_trans hB hW.size))
 have HR2 := hid (fun W (hW : Below w.heap.size w W) => table_Rows tb.id tb.name u tb.cols B W (hu.keep fun p (hp : p.block < B) => hW.cell (p := p) (by omega)) (Nat.le_trans hB hW.size))
 have hra : rowsC ta.cols ≤ 4096 := rows_le h1
 have hrb : rowsC tb.cols ≤ 4096 := rows_le h2
 have hcl : commonL ta.cols tb.cols ≤ 4096 := Nat.le_trans (commonL_le_rows _ _) hra
 have hd : 0 < denS ta.cols tb.cols := by unfold denS; omega
 have hd2 : denS ta.cols tb.cols < 4294967296 := by unfold denS; omega
 have HOF := hid (fun W => Fr.num_Of (commonL ta.cols tb.cols) (denS ta.cols tb.cols) W (by omega) hd hd2)
 have HDE : Hid (denS ta.cols tb.cols = max (max (rowsC ta.cols) (rowsC tb.cols)) 1) := hid rfl
 clear hv hu hT hP h1 h2 hd hd2
 generalize denS ta.cols tb.cols = D at *
 generalize commonL ta.cols tb.cols = C at *
 generalize rowsC ta.cols = ra at *
 generalize rowsC tb.cols = rb at *
 generalize C / Nat.gcd C D = p at *
 generalize D / Nat.gcd C D = q at *
 generalize ta.id = i1 at *
 generalize tb.id = i2 at *
 generalize ta.name = n1 at *
 generalize tb.name = n2 at *
 have HB0 := hid (((((Below.refl w.heap.size w).alloc (Nat.le_refl _) (.cells #[.int .i64 i1, .string n1, v] 24)).alloc (by simp) (.cells #[.int .i64 i2, .string n2, u] 24))).alloc (by simp; omega) (.cells #[.bool false, .slice none 0 0, .bool false, .slice none 0 0] 49))
 have HX1 := hid (((BoxN.new w #[.int .i64 i1, .string n1, v] 24).alloc (.cells #[.int .i64 i2, .string n2, u] 24)).alloc (.cells #[.bool false, .slice none 0 0, .bool false, .slice none 0 0] 49))
 have hx2 := (BoxN.new (w.alloc (.cells #[.int .i64 i1, .string n1, v] 24)) #[.int .i64 i2, .string n2, u] 24).alloc (.cells #[.bool false, .slice none 0 0, .bool false, .slice none 0 0] 49)
 rw [World.size_alloc] at hx2
 have HX2 := hid hx2
 have hx3 := BoxN.new ((w.alloc (.cells #[.int .i64 i1, .string n1, v] 24)).alloc (.cells #[.int .i64 i2, .string n2, u] 24)) #[.bool false, .slice none 0 0, .bool false, .slice none 0 0] 49
 rw [World.size_alloc, World.size_alloc] at hx3
 have HX3 := hid hx3
 have hz : (((w.alloc (.cells #[.int .i64 i1, .string n1, v] 24)).alloc (.cells #[.int .i64 i2, .string n2, u] 24)).alloc (.cells #[.bool false, .slice none 0 0, .bool false, .slice none 0 0] 49)).heap.size = w.heap.size + 3 := by simp
 have c0 := HX1.out.cell 0 rfl
 have c1 := HX1.out.cell 1 rfl
 have c2 := HX1.out.cell 2 rfl
 have d0 := HX2.out.cell 0 rfl
 have d1 := HX2.out.cell 1 rfl
 have d2 := HX2.out.cell 2 rfl
 clear hx2 hx3
 go_enter Tryz.func18, Tryz.ntmps18
 go_wp2_with fail
 generalize (((w.alloc (.cells #[.int .i64 i1, .string n1, v] 24)).alloc (.cells #[.int .i64 i2, .string n2, u] 24)).alloc (.cells #[.bool false, .slice none 0 0, .bool false, .slice none 0 0] 49)) = W0 at *
 with_reducible refine (HCO.out _ HB0.out).mono ?_
 clear c0 c1 c2 d0 d1 d2
 rintro e w1 ⟨rfl, hb1⟩
 have HB1 := hid (HB0.out.trans (hb1.mono HB0.out.size))
 have HX11 := hid (HX1.out.below hb1 HX1.out.lt)
 have HX21 := hid (HX2.out.below hb1 HX2.out.lt)
 have HX31 := hid (HX3.out.below hb1 HX3.out.lt)
 have hz1 := hb1.size
 clear hb1
 have c0 := HX11.out.cell 0 rfl
 have c1 := HX11.out.cell 1 rfl
 have c2 := HX11.out.cell 2 rfl
 have d0 := HX21.out.cell 0 rfl
 have d1 := HX21.out.cell 1 rfl
 have d2 := HX21.out.cell 2 rfl
 have HC1 := hid (Below.refl w1.heap.size w1)
 have HQ1 := hid (fun W (hW : Below w1.heap.size w1 W) => HR1.out W (HB1.out.trans (hW.mono HB1.out.size)))
 have HQ2 := hid (fun W (hW : Below w1.heap.size w1 W) => HR2.out W (HB1.out.trans (hW.mono HB1.out.size)))
 have HG := hid (fun W (hW : Below w1.heap.size w1 W) => (⟨(HX11.out.below hW HX11.out.lt).cell 0 rfl, (HX11.out.below hW HX11.out.lt).cell 1 rfl, (HX11.out.below hW HX11.out.lt).cell 2 rfl, (HX21.out.below hW HX21.out.lt).cell 0 rfl, (HX21.out.below hW HX21.out.lt).cell 1 rfl, (HX21.out.below hW HX21.out.lt).cell 2 rfl⟩ : W.cell? ⟨w.heap.size, 0, none⟩ = some (.int .i64 i1) ∧ W.cell? ⟨w.heap.size, 1, none⟩ = some (.string n1) ∧ W.cell? ⟨w.heap.size, 2, none⟩ = some v ∧ W.cell? ⟨w.heap.size + 1, 0, none⟩ = some (.int .i64 i2) ∧ W.cell? ⟨w.heap.size + 1, 1, none⟩ = some (.string n2) ∧ W.cell? ⟨w.heap.size + 1, 2, none⟩ = some u))
 have HE : Hid ((if (if ra < rb then (rb : Int) else (ra : Int)) < 1 then (1 : Int) else if ra < rb then (rb : Int) else (ra : Int)) = (D : Int)) := hid (by rw [HDE.out]; omega)
 go_upto_region 4 with fail
 go_region_held3 (fun w' => w'.cell? ⟨w.heap.size, 0, none⟩ = some (.int .i64 i1) ∧ w'.cell? ⟨w.heap.size, 1, none⟩ = some (.string n1) ∧ w'.cell? ⟨w.heap.size, 2, none⟩ = some v ∧ w'.cell? ⟨w.heap.size + 1, 0, none⟩ = some (.int .i64 i2) ∧ w'.cell? ⟨w.heap.size + 1, 1, none⟩ = some (.string n2) ∧ w'.cell? ⟨w.heap.size + 1, 2, none⟩ = some u)
  (first | exact HG.out _ (Below.refl _ _) | exact HG.out _ HC5.out | exact HG.out _ HC6.out | exact HG.out _ HC7.out | ((repeat rw [World.cell?_setCell_other _ _ _ _ (by intro e; injection e with e; omega)]); exact HG.out _ HC7.out) | go_keep)
  (first
   | (go_at_call 54; go_must (first
     | ((with_reducible refine (HQ1.out _ (by first | (have h1 := HC6.out; have h2 := HC6.out.size; repeat' (first | (with_reducible exact Below.refl _ _) | (with_reducible assumption) | (with_reducible refine below_drewN ?_) | (with_reducible refine Below.alloc ?_ ?_ _) | (with_reducible refine Below.drew ?_) | (with_reducible refine Below.setCell ?_ ?_ _) | (with_reducible refine Below.trans ?_ (Below.mono (by with_reducible assumption) ?_)) | go_size)) | (have h1 := HC1.out; have h2 := HC1.out.size; repeat' (first | (with_reducible exact Below.refl _ _) | (with_reducible assumption) | (with_reducible refine below_drewN ?_) | (with_reducible refine Below.alloc ?_ ?_ _) | (with_reducible refine Below.drew ?_) | (with_reducible refine Below.setCell ?_ ?_ _) | (with_reducible refine Below.trans ?_ (Below.mono (by with_reducible assumption) ?_)) | go_size)))).mono ?_); rintro e w5 ⟨rfl, hb5⟩; have HC5 : Hid (Below w1.heap.size w1 w5) := hid (by first | (have h1 := HC6.out; have h2 := HC6.out.size; repeat' (first | (with_reducible exact Below.refl _ _) | (with_reducible assumption) | (with_reducible refine below_drewN ?_) | (with_reducible refine Below.alloc ?_ ?_ _) | (with_reducible refine Below.drew ?_) | (with_reducible refine Below.setCell ?_ ?_ _) | (with_reducible refine Below.trans ?_ (Below.mono (by with_reducible assumption) ?_)) | go_size)) | (have h1 := HC1.out; have h2 := HC1.out.size; repeat' (first | (with_reducible exact Below.refl _ _) | (with_reducible assumption) | (with_reducible refine below_drewN ?_) | (with_reducible refine Below.alloc ?_ ?_ _) | (with_reducible refine Below.drew ?_) | (with_reducible refine Below.setCell ?_ ?_ _) | (with_reducible refine Below.trans ?_ (Below.mono (by with_reducible assumption) ?_)) | go_size))); clear hb5)
     | ((with_reducible refine (HQ2.out _ (by first | (have h1 := HC5.out; have h2 := HC5.out.size; repeat' (first | (with_reducible exact Below.refl _ _) | (with_reducible assumption) | (with_reducible refine below_drewN ?_) | (with_reducible refine Below.alloc ?_ ?_ _) | (with_reducible refine Below.drew ?_) | (with_reducible refine Below.setCell ?_ ?_ _) | (with_reducible refine Below.trans ?_ (Below.mono (by with_reducible assumption) ?_)) | go_size)) | (have h1 := HC1.out; have h2 := HC1.out.size; repeat' (first | (with_reducible exact Below.refl _ _) | (with_reducible assumption) | (with_reducible refine below_drewN ?_) | (with_reducible refine Below.alloc ?_ ?_ _) | (with_reducible refine Below.drew ?_) | (with_reducible refine Below.setCell ?_ ?_ _) | (with_reducible refine Below.trans ?_ (Below.mono (by with_reducible assumption) ?_)) | go_size)))).mono ?_); rintro e w6 ⟨rfl, hb6⟩; have HC6 : Hid (Below w1.heap.size w1 w6) := hid (by first | (have h1 := HC5.out; have h2 := HC5.out.size; repeat' (first | (with_reducible exact Below.refl _ _) | (with_reducible assumption) | (with_reducible refine below_drewN ?_) | (with_reducible refine Below.alloc ?_ ?_ _) | (with_reducible refine Below.drew ?_) | (with_reducible refine Below.setCell ?_ ?_ _) | (with_reducible refine Below.trans ?_ (Below.mono (by with_reducible assumption) ?_)) | go_size)) | (have h1 := HC1.out; have h2 := HC1.out.size; repeat' (first | (with_reducible exact Below.refl _ _) | (with_reducible assumption) | (with_reducible refine below_drewN ?_) | (with_reducible refine Below.alloc ?_ ?_ _) | (with_reducible refine Below.drew ?_) | (with_reducible refine Below.setCell ?_ ?_ _) | (with_reducible refine Below.trans ?_ (Below.mono (by with_reducible assumption) ?_)) | go_size))); clear hb6)))
   | (go_at_call 59; go_must (rw [HE.out]; (with_reducible refine (HOF.out _).mono ?_); rintro e w7 ⟨x4, y4, x5, y5, rfl, hN, hb7⟩; have HC7 : Hid (Below w1.heap.size w1 w7) := hid (by first | (have h1 := HC6.out; have h2 := HC6.out.size; repeat' (first | (with_reducible exact Below.refl _ _) | (with_reducible assumption) | (with_reducible refine below_drewN ?_) | (with_reducible refine Below.alloc ?_ ?_ _) | (with_reducible refine Below.drew ?_) | (with_reducible refine Below.setCell ?_ ?_ _) | (with_reducible refine Below.trans ?_ (Below.mono (by with_reducible assumption) ?_)) | go_size)) | (have h1 := HC5.out; have h2 := HC5.out.size; repeat' (first | (with_reducible exact Below.refl _ _) | (with_reducible assumption) | (with_reducible refine below_drewN ?_) | (with_reducible refine Below.alloc ?_ ?_ _) | (with_reducible refine Below.drew ?_) | (with_reducible refine Below.setCell ?_ ?_ _) | (with_reducible refine Below.trans ?_ (Below.mono (by with_reducible assumption) ?_)) | go_size))); have HN : Hid (Fr.NewF w1.heap.size w7 x4 y4 x5 y5 p q) := hid (hN.mono (by first | (have h1 := HC6.out.size; omega) | (have h1 := HC5.out.size; omega))); have f0 := (HX31.out.below HC7.out HX31.out.lt).frozen 0; have f1 := (HX31.out.below HC7.out HX31.out.lt).frozen 1; have f2 := (HX31.out.below HC7.out HX31.out.lt).frozen 2; have f3 := (HX31.out.below HC7.out HX31.out.lt).frozen 3; have m0 := (HX31.out.below HC7.out HX31.out.lt).cell 0 rfl; have m1 := (HX31.out.below HC7.out HX31.out.lt).cell 1 rfl; have m2 := (HX31.out.below HC7.out HX31.out.lt).cell 2 rfl; have m3 := (HX31.out.below HC7.out HX31.out.lt).cell 3 rfl; clear hb7 hN)))
 all_goals
  have hrl := HX31.out.lt
  go_wp2
  refine bodyPost_ret (by simp [results, Tryz.results18, go_sem, m0, m1, m2, m3]; rfl) rfl ?_
  refine ⟨x4, y4, x5, y5, by first | rfl | simp, ((((HN.out.setCell hrl).setCell hrl).setCell hrl).setCell hrl).mono (by omega), ?_⟩
  have h1 := HB1.out.trans (HC7.out.mono HB1.out.size)
  exact (((h1.setCell (p := ⟨w.heap.size + 2, 0, none⟩) (by show w.heap.size ≤ w.heap.size + 2; omega) _).setCell (p := ⟨w.heap.size + 2, 1, none⟩) (by show w.heap.size ≤ w.heap.size + 2; omega) _).setCell (p := ⟨w.heap.size + 2, 2, none⟩) (by show w.heap.size ≤ w.heap.size + 2; omega) _).setCell (p := ⟨w.heap.size + 2, 3, none⟩) (by show w.heap.size ≤ w.heap.size + 2; omega) _
end Go.Proofs.YthblaeleogdfpaaGreatDoor
