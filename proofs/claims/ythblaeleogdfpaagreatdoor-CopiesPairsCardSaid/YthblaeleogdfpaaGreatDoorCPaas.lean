/- Contract of the reference's Common (chapter 36), at any tables. Contracts of the reference's arithmetic of words: cmp, trim, big, ValidBig, FromInt. Contracts of the reference's arithmetic: ValidBig, FromInt, Minus, Whole. -/
import Derived.Test.YthblaeleogdfpaaGreatDoorCPaaj
import Derived.Test.YthblaeleogdfpaaGreatDoorCPaar
import Derived.Test.YthblaeleogdfpaaGreatDoorCPaak
import Derived.Test.YthblaeleogdfpaaGreatDoorProg
import Derived.Test.YthblaeleogdfpaaGreatDoorCPaan
set_option linter.unusedVariables false
set_option linter.unusedSimpArgs false
namespace Go.Proofs.YthblaeleogdfpaaGreatDoor
open Go.RowKit
def errB (ta tb : Ta) : Int := if tabB ta = true ∧ tabB tb = true then 0 else 1
def comB (ta tb : Ta) : Nat := if tabB ta = true ∧ tabB tb = true then commonL ta.cols tb.cols else 0
theorem info_boolE : (Tryz.prog.info? 4).map (fun i => (i.zero, i.size, i.bytes)) = some (some (.bool false), 1, 1) := by kernel_rfl
theorem made_boolsE (n : Nat) (h : n ≤ 1048576) (w : World) :
    (Instr.makeSlice 100 (.int .i64 (n : Int)) (.int .i64 (n : Int))).run Tryz.prog w = .ok (.slice (some ⟨w.heap.size, 0, none⟩) n n) (w.alloc (.cells (madeCells #[.bool false] n) 4)) :=
  run_make_row' (P := Tryz.prog) 100 4 (.bool false) 1 Tryz.underlying100 info_boolE rfl .i64 .i64 n (by omega) (by omega) w
set_option maxRecDepth 100000 in
set_option maxHeartbeats 4000000 in
theorem ref36_Common (ta tb : Ta) (v u : Value) (B : Nat) (w : World) (h1 : SzT ta) (h2 : SzT tb) (hv : RdCo w (· < B) v ta.cols) (hu : RdCo w (· < B) u tb.cols) (hB : B ≤ w.heap.size) (hT : Tabs w) :
  Calls Tryz.prog 17 #[.agg #[.int .i64 ta.id, .string ta.name, v], .agg #[.int .i64 tb.id, .string tb.name, u]] w (fun e w' => e = .returned (.tuple #[.int .i64 ((comB ta tb : Nat) : Int), .int .i64 (errB ta tb)]) ∧ Below w.heap.size w w') := by
 have HV1 := hid (fun W (hW : Below w.heap.size w W) => ref_ValidB ta v B W h1 (hv.keep fun p (hp : p.block < B) => hW.cell (p := p) (by omega)) (Nat.le_trans hB hW.size) (hT.below hW))
 have HV2 := hid (fun W (hW : Below w.heap.size w W) => ref_ValidB tb u B W h2 (hu.keep fun p (hp : p.block < B) => hW.cell (p := p) (by omega)) (Nat.le_trans hB hW.size) (hT.below hW))
 have HR1 := hid (fun W (hW : Below w.heap.size w W) => ref03_Rows ta.id ta.name v ta.cols B W (hv.keep fun p (hp : p.block < B) => hW.cell (p := p) (by omega)) (Nat.le_trans hB hW.size))
 have HR2 := hid (fun W (hW : Below w.heap.size w W) => ref03_Rows tb.id tb.name u tb.cols B W (hu.keep fun p (hp : p.block < B) => hW.cell (p := p) (by omega)) (Nat.le_trans hB hW.size))
 have HCR1 : Hid (rowsC ta.cols = rowsN ta.cols) := hid rfl
 have HCR2 : Hid (rowsC tb.cols = rowsN tb.cols) := hid rfl
 rw [HCR1.out] at HR1
 rw [HCR2.out] at HR2
 clear HCR1 HCR2
 have HCB := hid (show comB ta tb = if tabB ta = true ∧ tabB tb = true then commonL ta.cols tb.cols else 0 from rfl)
 have HEB := hid (show errB ta tb = if tabB ta = true ∧ tabB tb = true then 0 else 1 from rfl)
 have HAL := hid (fun (g1 : TabV ta) (g2 : TabV tb) W (hW : Below w.heap.size w W) => ref36_Align ta.id tb.id ta.name tb.name v u ta.cols tb.cols B W (hv.keep fun p (hp : p.block < B) => hW.cell (p := p) (by omega)) (hu.keep fun p (hp : p.block < B) => hW.cell (p := p) (by omega)) (Nat.le_trans hB hW.size) (by have := g1.2.2.2.1; omega) (by have := g2.2.2.2.1; omega))
 have HEQ := hid (fun (g1 : TabV ta) (g2 : TabV tb) (h : Aligns ta.cols tb.cols) x (hx : x < rowsN ta.cols) y (hy : y < rowsN tb.cols) vv B' W (hv' : InK 1 W (· < B') vv (alignL ta.cols tb.cols).length (fun j _ => .int .i64 (((alignL ta.cols tb.cols).getD j 0 : Nat) : Int))) (hB' : B' ≤ W.heap.size) (hBB : B ≤ B') (hW : Below w.heap.size w W) =>
  ref36_equal ta.id tb.id ta.name tb.name v u vv ta.cols tb.cols (alignL ta.cols tb.cols) x y B' W ((hv.keep fun p (hp : p.block < B) => hW.cell (p := p) (by omega)).more fun b hb => Nat.lt_of_lt_of_le hb hBB) ((hu.keep fun p (hp : p.block < B) => hW.cell (p := p) (by omega)).more fun b hb => Nat.lt_of_lt_of_le hb hBB) hv' hB' (alignL_len _ _)
   (fun i hi => align_lt h _ (getD_mem (by rw [alignL_len]; exact hi) 0)) (tab_row g1 hx) (tab_row g2 hy) (by have := g2.2.2.2.1; omega) (by have := rows_le g1; omega) (by have := rows_le g2; omega))
 have HTV1 := hid (fun (h : tabB ta = true) => tabV_ofB h)
 have HTV2 := hid (fun (h : tabB tb = true) => tabV_ofB h)
 have HRL1 := hid (fun (h : TabV ta) => rows_le h)
 have HRL2 := hid (fun (h : TabV tb) => rows_le h)
 have HCM : Hid (Aligns ta.cols tb.cols → commonL ta.cols tb.cols = comL (rowsOf ta.cols (ownL ta.cols) (rowsN ta.cols)) (rowsOf tb.cols (alignL ta.cols tb.cols) (rowsN tb.cols))) := hid (fun h => if_pos h)
 have HCN : Hid (¬ Aligns ta.cols tb.cols → commonL ta.cols tb.cols = 0) := hid (fun h => if_neg h)
 have HAN := hid (alignL_len ta.cols tb.cols)
 obtain ⟨a1, k1, rfl⟩ : ∃ a1 k1, v = .slice a1 ta.cols.length k1 := by
  obtain ⟨_, ⟨a1, k1, e, -⟩, -⟩ := hv
  exact ⟨a1, k1, e⟩
 obtain ⟨a2, k2, rfl⟩ : ∃ a2 k2, u = .slice a2 tb.cols.length k2 := by
  obtain ⟨_, ⟨a2, k2, e, -⟩, -⟩ := hu
  exact ⟨a2, k2, e⟩
 clear hv hu hT h1 h2
 generalize comB ta tb = R at *
 generalize errB ta tb = E at *
 generalize tabB ta = g1 at *
 generalize tabB tb = g2 at *
 generalize TabV ta = T1 at *
 generalize TabV tb = T2 at *
 generalize hn : ta.cols.length = n at *
 have HN := hid hn
 clear hn
 generalize tb.cols.length = m at *
 generalize ta.cols = xs at *
 generalize tb.cols = ys at *
 generalize ta.id = i1 at *
 generalize tb.id = i2 at *
 generalize ta.name = n1 at *
 generalize tb.name = n2 at *
 have HX1 := hid ((BoxN.new w #[.int .i64 i1, .string n1, .slice a1 n k1] 24).alloc (.cells #[.int .i64 i2, .string n2, .slice a2 m k2] 24))
 have hx2 := BoxN.new (w.alloc (.cells #[.int .i64 i1, .string n1, .slice a1 n k1] 24)) #[.int .i64 i2, .string n2, .slice a2 m k2] 24
 rw [World.size_alloc] at hx2
 have HX2 := hid hx2
 have HB0 : Hid (Below w.heap.size w ((w.alloc (.cells #[.int .i64 i1, .string n1, .slice a1 n k1] 24)).alloc (.cells #[.int .i64 i2, .string n2, .slice a2 m k2] 24))) := hid (((Below.refl _ w).alloc (Nat.le_refl _) _).alloc (by simp) _)
 have hz : ((w.alloc (.cells #[.int .i64 i1, .string n1, .slice a1 n k1] 24)).alloc (.cells #[.int .i64 i2, .string n2, .slice a2 m k2] 24)).heap.size = w.heap.size + 2 := by simp
 have c0 := HX1.out.cell 0 rfl
 have c1 := HX1.out.cell 1 rfl
 have c2 := HX1.out.cell 2 rfl
 clear hx2
 go_enter Tryz.func17, Tryz.ntmps17
 generalize hLA : Code.loop _ = LA
 go_wp2_with fail
 with_reducible refine (HV1.out _ HB0.out).mono ?_
 clear c0 c1 c2
 generalize (w.alloc (.cells #[.int .i64 i1, .string n1, .slice a1 n k1] 24)).alloc (.cells #[.int .i64 i2, .string n2, .slice a2 m k2] 24) = W0 at *
 rintro e w1 ⟨rfl, hb1⟩
 have HX11 := hid (HX1.out.below hb1 HX1.out.lt)
 have HX21 := hid (HX2.out.below hb1 HX2.out.lt)
 have HB1 := hid (HB0.out.trans (hb1.mono HB0.out.size))
 have d0 := HX21.out.cell 0 rfl
 have d1 := HX21.out.cell 1 rfl
 have d2 := HX21.out.cell 2 rfl
 have hz1 := hb1.size
 clear hb1
 cases g1 with
 | false =>
  obtain rfl : R = 0 := by rw [HCB.out, if_neg (by simp)]
  obtain rfl : E = 1 := by rw [HEB.out, if_neg (by simp)]
  go_wp2
  go_ret2
  exact ⟨rfl, HB1.out⟩
 | true =>
  go_wp2_with fail
  with_reducible refine (HV2.out _ HB1.out).mono ?_
  rintro e w2 ⟨rfl, hb2⟩
  have HX12 := hid (HX11.out.below hb2 HX11.out.lt)
  have HX22 := hid (HX21.out.below hb2 HX21.out.lt)
  have HB2 := hid (HB1.out.trans (hb2.mono HB1.out.size))
  have hz2 := hb2.size
  clear hb2 d0 d1 d2
  cases g2 with
  | false =>
   obtain rfl : R = 0 := by rw [HCB.out, if_neg (by simp)]
   obtain rfl : E = 1 := by rw [HEB.out, if_neg (by simp)]
   go_wp2
   go_ret2
   exact ⟨rfl, HB2.out⟩
  | true =>
   obtain rfl : E = 0 := by rw [HEB.out, if_pos (by simp)]
   have HRC : Hid (R = commonL xs ys) := hid (by rw [HCB.out, if_pos (by simp)])
   have HT1 := hid (HTV1.out (by simp))
   have HT2 := hid (HTV2.out (by simp))
   have hra := HRL1.out HT1.out
   have hrb := HRL2.out HT2.out
   clear HCB HEB
   have c0 := HX12.out.cell 0 rfl
   have c1 := HX12.out.cell 1 rfl
   have c2 := HX12.out.cell 2 rfl
   have d0 := HX22.out.cell 0 rfl
   have d1 := HX22.out.cell 1 rfl
   have d2 := HX22.out.cell 2 rfl
   go_wp2_with fail
   with_reducible refine (HAL.out HT1.out HT2.out _ HB2.out).mono ?_
   clear c0 c1 c2 d0 d1 d2
   rintro e w3 ⟨hb3, ⟨hna, rfl⟩ | ⟨ha, aa, ac, rfl, hown3⟩⟩
   ·have HB3 := hid (HB2.out.trans (hb3.mono HB2.out.size))
    obtain rfl : R = 0 := by rw [HRC.out]; exact HCN.out hna
    clear hna hb3
    go_wp2
    go_ret2
    exact ⟨rfl, HB3.out⟩
   ·have HA := hid ha
    have HB3 := hid (HB2.out.trans (hb3.mono HB2.out.size))
    have HX13 := hid (HX12.out.below hb3 HX12.out.lt)
    have HX23 := hid (HX22.out.below hb3 HX22.out.lt)
    have HOW := hid hown3
    have hz3 := hb3.size
    rw [HN.out] at hown3 HOW ⊢
    have HRCL := hid (HCM.out HA.out)
    have HEQ2 := hid (HEQ.out HT1.out HT2.out HA.out)
    have HLA1 := hid (rowsOf_len xs (ownL xs) (rowsN xs))
    have HLB1 := hid (rowsOf_len ys (alignL xs ys) (rowsN ys))
    have HAT1 : Hid (∀ x, x < rowsN xs → (rowsOf xs (ownL xs) (rowsN xs)).getD x [] = rowAt xs (ownL xs) x) := hid (fun x hx => by simp [rowsOf, List.getD, hx])
    have HAT2 : Hid (∀ x, x < rowsN ys → (rowsOf ys (alignL xs ys) (rowsN ys)).getD x [] = rowAt ys (alignL xs ys) x) := hid (fun x hx => by simp [rowsOf, List.getD, hx])
    have d0 := HX23.out.cell 0 rfl
    have d1 := HX23.out.cell 1 rfl
    have d2 := HX23.out.cell 2 rfl
    clear ha hb3 hown3 HEQ HCM HCN
    generalize rowsN xs = ra at *
    generalize rowsN ys = rb at *
    go_wp2_with fail
    with_reducible refine (HR2.out _ HB3.out).mono ?_
    clear d0 d1 d2
    rintro e w4 ⟨rfl, hb4⟩
    have HB4 := hid (HB3.out.trans (hb4.mono HB3.out.size))
    have HX14 := hid (HX13.out.below hb4 HX13.out.lt)
    have HX24 := hid (HX23.out.below hb4 HX23.out.lt)
    have HB34 := hid hb4
    have hz4 := hb4.size
    have hmk := made_boolsE rb (by omega)
    have HBM := hid ((Below.refl w4.heap.size w4).alloc (Nat.le_refl _) (.cells (madeCells #[.bool false] rb) 4))
    have HRO := hid (World.rowIs_made w4 (.bool false) rb 4)
    have HX15 := hid (HX14.out.alloc (.cells (madeCells #[.bool false] rb) 4))
    have HX25 := hid (HX24.out.alloc (.cells (madeCells #[.bool false] rb) 4))
    have HB5 := hid (HB4.out.alloc HB4.out.size (.cells (madeCells #[.bool false] rb) 4))
    have c0 := HX15.out.cell 0 rfl
    have c1 := HX15.out.cell 1 rfl
    have c2 := HX15.out.cell 2 rfl
    have hz5 : (w4.alloc (.cells (madeCells #[.bool false] rb) 4)).heap.size = w4.heap.size + 1 := by simp
    clear hb4
    go_wp2_with fail
    with_reducible refine (HR1.out _ HB5.out).mono ?_
    clear c0 c1 c2 hmk
    generalize w4.alloc (.cells (madeCells #[.bool false] rb) 4) = W5 at *
    generalize hob : w4.heap.size = ob at *
    rintro e w6 ⟨rfl, hb6⟩
    have HB6 := hid (HB5.out.trans (hb6.mono HB5.out.size))
    have HBo := hid (HBM.out.trans (hb6.mono (by have := HBM.out.size; omega)))
    have HRO6 := hid (HRO.out.of_block (hb6.block ob (by omega)))
    have HX16 := hid (HX15.out.below hb6 HX15.out.lt)
    have HX26 := hid (HX25.out.below hb6 HX25.out.lt)
    have hz6 := hb6.size
    clear hb6
    have HAI : Hid (∀ W, Below ob w4 W → InK 1 W (· < ob) (.slice aa n ac) (alignL xs ys).length (fun j _ => .int .i64 (((alignL xs ys).getD j 0 : Nat) : Int))) := hid (fun W hW => by
     have h1 := rd_of_owns HOW.out (fun j => .int .i64 (((alignL xs ys).getD j 0 : Nat) : Int)) (fun i hi => by
      have : i < (alignL xs ys).length := by rw [HAN.out]; exact hi
      simp [intsV, List.getD, this])
     have h2 := inK_of_rd h1
     rw [HAN.out]
     exact (h2.keep fun p hp => (hW.cell (p := p) (by have : p.block < w3.heap.size := hp; omega)).trans (HB34.out.cell (p := p) (by have : p.block < w3.heap.size := hp; omega))).more fun b hb => by have : b < w3.heap.size := hb; omega)
    subst hLA
    go_wp2_with fail
    go_loopg [9, 33] ra (fun N n i wr => ∃ (x nn : Nat) (T : Nat → Bool), x + N = ra ∧ n = .int .i64 (nn : Int) ∧ i = .int .i64 (x : Int) ∧ nn ≤ x ∧ Hid (comL (rowsOf xs (ownL xs) ra) (rowsOf ys (alignL xs ys) rb) = nn + comL ((rowsOf xs (ownL xs) ra).drop x) (leftR T (rowsOf ys (alignL xs ys) rb) [])) ∧ Hid (wr.rowIs ob 4 rb (fun y => .bool (T y)) ∧ Below ob w4 wr))
    case atStart => exact ⟨0, 0, fun _ => false, by omega, rfl, rfl, Nat.le_refl _, hid (by rw [left_none, Nat.zero_add]; rfl), hid ⟨HRO6.out, HBo.out⟩⟩
    case round =>
     obtain ⟨x, nn, T, hx, rfl, rfl, hnx, HCL, HST⟩ := hrel
     by_cases hp : 0 < gk
     ·have hxr : x < ra := by omega
      have HEQX := hid (HEQ2.out x hxr)
      have HNOX : Hid ((∀ y, y < rb → T y = false → eqAt xs ys (alignL xs ys) x y = false) → comL (rowsOf xs (ownL xs) ra) (rowsOf ys (alignL xs ys) rb) = nn + comL ((rowsOf xs (ownL xs) ra).drop (x + 1)) (leftR T (rowsOf ys (alignL xs ys) rb) [])) := hid (fun h => left_no (by rw [HLA1.out]; exact hxr) HCL.out (fun y hy ht he => by
       rw [HLB1.out] at hy
       rw [HAT1.out x hxr, HAT2.out y hy] at he
       have := h y hy ht
       unfold eqAt at this
       exact of_decide_eq_false this he.symm))
      have HYSX : Hid (∀ y, y < rb → T y = false → eqAt xs ys (alignL xs ys) x y = true → comL (rowsOf xs (ownL xs) ra) (rowsOf ys (alignL xs ys) rb) = nn + 1 + comL ((rowsOf xs (ownL xs) ra).drop (x + 1)) (leftR (fun z => T z || decide (z = y)) (rowsOf ys (alignL xs ys) rb) [])) := hid (fun y hy ht he => left_yes (by rw [HLA1.out]; exact hxr) HCL.out (by rw [HLB1.out]; exact hy) ht (by
       rw [HAT1.out x hxr, HAT2.out y hy]
       unfold eqAt at he
       exact (of_decide_eq_true he).symm))
      obtain ⟨ko, rfl⟩ : ∃ ko, ko = gk := ⟨gk, rfl⟩
      go_wp2_with fail
      go_loopg [9, 38] rb (fun N n i wr => ∃ y : Nat, y + N = rb ∧ n = .int .i64 (nn : Int) ∧ i = .int .i64 (y : Int) ∧ Hid (wr.rowIs ob 4 rb (fun y => .bool (T y)) ∧ Below ob w4 wr) ∧ Hid (∀ z, z < y → T z = false → eqAt xs ys (alignL xs ys) x z = false))
      case atStart => exact ⟨0, by omega, rfl, rfl, HST, hid (fun z h => absurd h (by omega))⟩
      case round =>
       obtain ⟨y, hy, rfl, rfl, HSI, HNI⟩ := hrel
       by_cases hp2 : 0 < gk
       ·have hyr : y < rb := by omega
        have t0 := HSI.out.1.cell (i := y) hyr
        have hobl := HSI.out.1.lt
        have hwo := HB4.out.size
        have hBV := HSI.out.2.size
        have HBV := hid (HB4.out.trans (HSI.out.2.mono (by omega)))
        by_cases hT : T y = true
        ·rw [hT] at t0
         have HNJ : Hid (∀ z, z < y + 1 → T z = false → eqAt xs ys (alignL xs ys) x z = false) := hid (fun z hz ht => by
          rcases Nat.lt_or_ge z y with h3 | h3
          ·exact HNI.out z h3 ht
          ·obtain rfl : z = y := by omega
           rw [hT] at ht; cases ht)
         clear hT
         go_wp2
         go_roundg (gk - 1)
         case rel => exact ⟨y + 1, by omega, rfl, by go_num, HSI, HNJ⟩
         case measure => omega
        ·have hT' : T y = false := by simpa using hT
         rw [hT'] at t0
         have HYS2 := hid (HYSX.out y hyr hT')
         have HNJ : Hid (eqAt xs ys (alignL xs ys) x y = false → ∀ z, z < y + 1 → T z = false → eqAt xs ys (alignL xs ys) x z = false) := hid (fun he z hz ht => by
          rcases Nat.lt_or_ge z y with h3 | h3
          ·exact HNI.out z h3 ht
          ·obtain rfl : z = y := by omega
           exact he)
         have hxa := HX14.out.below HSI.out.2 (by have := HX14.out.lt; omega)
         have hxb := HX24.out.below HSI.out.2 (by have := HX24.out.lt; omega)
         have c0 := hxa.cell 0 rfl
         have c1 := hxa.cell 1 rfl
         have c2 := hxa.cell 2 rfl
         have d0 := hxb.cell 0 rfl
         have d1 := hxb.cell 1 rfl
         have d2 := hxb.cell 2 rfl
         have HCAL := hid (HEQX.out y hyr (.slice aa n ac) ob wr (HAI.out wr HSI.out.2) (by omega) (by omega) HBV.out)
         clear hxa hxb hT hT'
         generalize eqAt xs ys (alignL xs ys) x y = ee at *
         go_wp2_with fail
         with_reducible refine HCAL.out.mono ?_
         clear c0 c1 c2 d0 d1 d2 t0 HCAL
         rintro e V1 ⟨rfl, hbv⟩
         have HRV := hid (HSI.out.1.of_block (hbv.block ob (by omega)))
         have HBV1 := hid (HSI.out.2.trans (hbv.mono (by omega)))
         clear hbv
         cases ee with
         | false =>
          have HNK := hid (HNJ.out rfl)
          go_wp2
          go_roundg (gk - 1)
          case rel => exact ⟨y + 1, by omega, rfl, by go_num, hid ⟨HRV.out, HBV1.out⟩, HNK⟩
          case measure => omega
         | true =>
          have HYK := hid (HYS2.out rfl)
          have f0 := HRV.out.frozen y
          have o0 := HRV.out.cell (i := y) hyr
          have HRW : Hid ((V1.setCell ⟨ob, y, none⟩ (.bool true)).rowIs ob 4 rb (fun z => .bool (T z || decide (z = y)))) := hid ((HRV.out.set y (.bool true)).congr (fun z hz => by
           by_cases e : z = y
           ·rw [if_pos e, decide_eq_true e, Bool.or_true]
           ·rw [if_neg e, decide_eq_false e, Bool.or_false]))
          have HBW := hid (HBV1.out.setCell (p := ⟨ob, y, none⟩) (Nat.le_refl _) (.bool true))
          go_wp2
          go_roundg (ko - 1)
          case rel => exact ⟨x + 1, nn + 1, _, by omega, by go_num, by go_num, by omega, HYK, hid ⟨HRW.out, HBW.out⟩⟩
          case measure => omega
       ·obtain rfl : y = rb := by omega
        have HNK := hid (HNOX.out HNI.out)
        go_wp2
        go_roundg (ko - 1)
        case rel => exact ⟨x + 1, nn, T, by omega, rfl, by go_num, by omega, HNK, HSI⟩
        case measure => omega
     ·obtain rfl : x = ra := by omega
      have hR : R = nn := by
       rw [HRC.out, HRCL.out, HCL.out, List.drop_eq_nil_of_le (by rw [HLA1.out]; exact Nat.le_refl _), comL_nil]
       rfl
      subst hR
      have HBE := hid (HB4.out.trans (HST.out.2.mono (by have := HB4.out.size; omega)))
      go_wp2
      go_ret2
      exact ⟨rfl, HBE.out⟩
end Go.Proofs.YthblaeleogdfpaaGreatDoor

namespace Go.Proofs.YthblaeleogdfpaaGreatDoor.Fr
open Go.RowKit
theorem info_u32 : (Tryz.prog.info? 157).map (fun i => (i.zero, i.size, i.bytes)) = some (some (.int .u32 0), 1, 4) := by kernel_rfl
set_option maxHeartbeats 400000 in
theorem ref_cmp (u v : Value) (xs ys : List Nat) (w : World) (hx : Rd32 w u xs) (hy : Rd32 w v ys) :
    Calls Tryz.prog 246 #[u, v] w (Quiet w (.int .i64 (cmpL xs ys))) := by
  obtain ⟨a, c, rfl, hc, hm, hxr, hxc⟩ := hx
  obtain ⟨a', c', rfl, hc', hm', hyr, hyc⟩ := hy
  obtain ⟨n, hn⟩ : ∃ n, n = xs.length := ⟨_, rfl⟩
  obtain ⟨n', hn'⟩ : ∃ n, n = ys.length := ⟨_, rfl⟩
  have HF : Hid (cmpL xs ys = if n = n' then cmpTop xs ys n else if n < n' then -1 else 1) := by simp [Hid, cmpL, hn, hn']
  generalize cmpL xs ys = F at *
  rw [← hn] at hc hxc ⊢
  rw [← hn'] at hc' hyc ⊢
  clear hn hn'
  unfold maxLen at hm hm'
  by_cases hl : n = n'
  · subst hl
    have HF' := HF.out
    rw [if_pos rfl] at HF'
    have HF2 := hid HF'
    clear HF' HF
    go_enter Tryz.func246, Tryz.ntmps246
    go_wp2
    go_loopw [5] (fun i w' => ∃ k : Nat, k ≤ n ∧ i = .int .i64 ((k : Int) - 1) ∧ F = cmpTop xs ys k ∧ ∃ m, w' = w.drewN m) (fun i _ => (intOf i + 1).toNat)
    case atStart => exact ⟨n, Nat.le_refl _, rfl, HF2.out, 0, rfl⟩
    case round =>
      clear HF2
      obtain ⟨k, hk, rfl, hf, m, rfl⟩ := hrel
      have HC := hid hf
      clear hf
      rcases k with _ | k
      · go_wp2
        go_ret
        exact ⟨ret_int HC.out.symm, _, rfl⟩
      · obtain ⟨b, o, rfl, hb, hcell⟩ := hxc (by omega)
        obtain ⟨b', o', rfl, hb', hcell'⟩ := hyc (by omega)
        have h1 := hcell k (by omega)
        have h2 := hcell' k (by omega)
        have e1 : ((k + 1 : Nat) : Int) - 1 = (k : Int) := by omega
        rw [e1]
        have hF := HC.out
        rw [cmpTop] at hF
        generalize hX : xs.getD k 0 = x at *
        generalize hY : ys.getD k 0 = y at *
        have HF3 := hid hF
        clear hcell hcell' hF hX hY HC hxc hyc
        by_cases hlt : x < y
        · go_wp2
          go_quiet (fail)
          go_wp2
          go_ret
          exact ⟨ret_int (by rw [HF3.out, if_pos hlt]), _, World.drewN_drewN _ _ _⟩
        · by_cases hgt : y < x
          · go_wp2
            go_quiet (fail)
            go_wp2
            go_quiet (fail)
            go_wp2
            go_ret
            exact ⟨ret_int (by rw [HF3.out, if_neg hlt, if_pos hgt]), _, by rw [World.drewN_drewN, World.drewN_drewN]⟩
          · go_wp2
            go_quiet (fail)
            go_wp2
            go_quiet (fail)
            go_wp2
            go_roundw
            case rel => exact ⟨k, by omega, rfl, by rw [HF3.out, if_neg hlt, if_neg hgt], _, rfl⟩
            case measure => simp [intOf]
  · have hF := HF.out
    rw [if_neg hl] at hF
    have hne : (((n : Int) != (n' : Int))) = true := by simp; omega
    have HF2 := hid hF
    clear hF HF
    by_cases hlt : n < n'
    · go_enter Tryz.func246, Tryz.ntmps246
      go_wp2
      go_ret
      exact ⟨ret_int (by rw [HF2.out, if_pos hlt]), 0, rfl⟩
    · go_enter Tryz.func246, Tryz.ntmps246
      go_wp2
      go_ret
      exact ⟨ret_int (by rw [HF2.out, if_neg hlt]), 0, rfl⟩
theorem Rd32.take {w : World} {a : Option Addr} {c : Nat} {xs : List Nat} (h : Rd32 w (.slice a xs.length c) xs) (k : Nat) (hk : k ≤ xs.length) : Rd32 w (.slice a k c) (xs.take k) := by
  obtain ⟨a', c', e, h1, h2, h3, h4⟩ := h
  obtain ⟨rfl, _, rfl⟩ := Value.slice.inj e
  have e : (xs.take k).length = k := by simp; omega
  refine ⟨a, c, by rw [e], by omega, h2, h3.take k, fun hp => ?_⟩
  obtain ⟨b, o, e1, h5, h6⟩ := h4 (by omega)
  refine ⟨b, o, e1, h5, fun i hi => ?_⟩
  rw [h6 i (by omega)]
  have : (xs.take k).getD i 0 = xs.getD i 0 := by rw [e] at hi; simp [List.getD, List.getElem?_take, hi]
  rw [this]
def QuietDig (w : World) (u : Value) (xs : List Nat) (e : Ending) (w' : World) : Prop :=
  ∃ a c, e = .returned (.slice a (dig (val xs)).length c) ∧ (∀ W, Rd32 W u xs → Rd32 W (.slice a (dig (val xs)).length c) (dig (val xs))) ∧ (∀ R, Off R u → Off R (.slice a (dig (val xs)).length c)) ∧ ∃ k, w' = w.drewN k
theorem Off.take {R n m c : Nat} {a : Option Addr} (h : Off R (.slice a n c)) (hm : m ≤ n) : Off R (.slice a m c) := by
  intro a' n' c' e hn
  obtain ⟨rfl, rfl, rfl⟩ := Value.slice.inj e
  exact h _ _ _ rfl (by omega)
set_option maxHeartbeats 400000 in
theorem ref_trim (u : Value) (xs : List Nat) (w : World) (hx : Rd32 w u xs) :
    Calls Tryz.prog 235 #[u] w (QuietDig w u xs) := by
  obtain ⟨a, c, rfl, hc, hm, hxr, hxc⟩ := hx
  have HT := hid (take_trimK hxr)
  have HL := hid (trimK_length hxr)
  have HR : Hid (∀ W, Rd32 W (.slice a xs.length c) xs → ∀ k, k ≤ xs.length → Rd32 W (.slice a k c) (xs.take k)) := fun W h k hk => h.take k hk
  clear hxr
  generalize hV : val xs = V at *
  obtain ⟨n, hn⟩ : ∃ n, n = xs.length := ⟨_, rfl⟩
  rw [← hn] at hc hxc HR HT HL
  have HN := hid hn
  have HVV := hid hV
  rw [show Value.slice a xs.length c = Value.slice a n c from by rw [hn]]
  clear hn hV
  unfold maxLen at hm
  go_enter Tryz.func235, Tryz.ntmps235
  go_wp2
  go_loopw [0] (fun v w' => ∃ k : Nat, k ≤ n ∧ v = .slice a k c ∧ trimK xs n = trimK xs k ∧ w' = w) (fun v _ => slen v)
  case atStart => exact ⟨n, Nat.le_refl _, rfl, rfl, rfl⟩
  case round =>
    obtain ⟨k, hk, rfl, hf, rfl⟩ := hrel
    have HC := hid hf
    clear hf
    rcases k with _ | k
    · go_wp2
      go_ret
      have e0 : (dig (val xs)).length = 0 := by rw [HVV.out, ← HL.out, HC.out]; rfl
      exact ⟨_, _, by rw [e0]; rfl, fun W hW => by have := HR.out W hW 0 (by omega); rw [e0, HVV.out, ← HT.out, HC.out]; exact this, fun R h => by rw [e0]; exact h.take (by omega), 0, rfl⟩
    · obtain ⟨b, o, rfl, hb, hcell⟩ := hxc (by omega)
      have h1 := hcell k (by omega)
      have hF := HC.out
      rw [trimK] at hF
      generalize hX : xs.getD k 0 = x at *
      have HF3 := hid hF
      clear hcell hF HC hxc hX
      have e1 : ((k + 1 : Nat) : Int) - 1 = (k : Int) := by omega
      by_cases hz : x = 0
      · go_wp2
        go_roundw
        case rel => exact ⟨k, by omega, rfl, by rw [HF3.out, if_pos hz], by trivial⟩
        case measure => simp [slen]
      · go_wp2
        go_ret
        have e0 : (dig (val xs)).length = k + 1 := by rw [HVV.out, ← HL.out, HF3.out, if_neg hz]
        exact ⟨_, _, by rw [e0]; rfl, fun W hW => by have := HR.out W hW (k + 1) (by omega); rw [e0, HVV.out, ← HT.out, HF3.out, if_neg hz]; exact this, fun R h => by rw [e0]; exact h.take (by omega), 0, rfl⟩
def GivesZ (us : List Value) (w : World) (neg : Bool) (n : Nat) (e : Ending) (w' : World) : Prop :=
  ∃ a c, e = .returned (.agg #[.bool (neg && decide (0 < n)), .slice a (dig n).length c]) ∧ Rd32 w' (.slice a (dig n).length c) (dig n) ∧
    (∀ R, R < w.heap.size → (∀ u ∈ us, Off R u) → Off R (.slice a (dig n).length c)) ∧ Below w.heap.size w w'
set_option maxHeartbeats 400000 in
theorem ref_big (neg : Bool) (u : Value) (xs : List Nat) (w : World) (hx : Rd32 w u xs) :
    Calls Tryz.prog 175 #[.bool neg, u] w (GivesZ [u] w neg (val xs)) := by
  go_enter Tryz.func175, Tryz.ntmps175
  go_wp2_with fail
  refine (ref_trim _ _ _ hx.alloc).mono ?_
  rintro e w' ⟨a, c, rfl, hv, ho, k, rfl⟩
  have HR := hid (hv w hx)
  have HO := hid (ho w.heap.size (hx.off (Nat.le_refl _)))
  have HO2 := hid ho
  clear hv ho
  by_cases hV : 0 < val xs
  · have hp := dig_length_pos.2 hV
    generalize val xs = V at *
    cases neg
    all_goals
      go_wp2
      go_returns
      exact ⟨_, _, by simp [hV], ((HR.out.alloc.drewN (n := k)).setCell HO.out).setCell HO.out, fun R _ h => HO2.out R (h u (by simp)), by repeat' (first | (with_reducible exact Below.refl _ _) | (with_reducible assumption) | (with_reducible refine below_drewN ?_) | (with_reducible refine Below.alloc ?_ ?_ _) | (with_reducible refine Below.drew ?_) | (with_reducible refine Below.setCell ?_ ?_ _) | (with_reducible refine Below.trans ?_ (Below.mono (by with_reducible assumption) ?_)) | go_size)⟩
  · have hp : ¬ 0 < (dig (val xs)).length := fun h => hV (dig_length_pos.1 h)
    generalize val xs = V at *
    cases neg
    all_goals
      go_wp2
      go_returns
      exact ⟨_, _, by simp [hV], ((HR.out.alloc.drewN (n := k)).setCell HO.out).setCell HO.out, fun R _ h => HO2.out R (h u (by simp)), by repeat' (first | (with_reducible exact Below.refl _ _) | (with_reducible assumption) | (with_reducible refine below_drewN ?_) | (with_reducible refine Below.alloc ?_ ?_ _) | (with_reducible refine Below.drew ?_) | (with_reducible refine Below.setCell ?_ ?_ _) | (with_reducible refine Below.trans ?_ (Below.mono (by with_reducible assumption) ?_)) | go_size)⟩
end Go.Proofs.YthblaeleogdfpaaGreatDoor.Fr

namespace Go.Proofs.YthblaeleogdfpaaGreatDoor.Fr
open Go.RowKit
def RdB (w : World) (v : Value) (neg : Bool) (xs : List Nat) : Prop := ∃ a c, v = .agg #[.bool neg, .slice a xs.length c] ∧ Rd32 w (.slice a xs.length c) xs
def okBig (neg : Bool) (xs : List Nat) : Bool := decide (xs.length ≤ 256 ∧ (xs.length = 0 ∧ neg = false ∨ 0 < xs.length ∧ xs.getD (xs.length - 1) 0 ≠ 0))
set_option maxRecDepth 100000 in
set_option maxHeartbeats 400000 in
theorem ref_ValidBig (v : Value) (neg : Bool) (xs : List Nat) (w : World) (hx : RdB w v neg xs) :
  Calls Tryz.prog 173 #[v] w (Ret w (.bool (okBig neg xs))) := by
 obtain ⟨a, c, rfl, hx⟩ := hx
 obtain ⟨a', c', e, hc, hm, hxr, hxc⟩ := hx
 obtain ⟨rfl, _, rfl⟩ := Value.slice.inj e
 clear e
 obtain ⟨n, hn⟩ : ∃ n, n = xs.length := ⟨_, rfl⟩
 have HF : Hid (okBig neg xs = decide (n ≤ 256 ∧ (n = 0 ∧ neg = false ∨ 0 < n ∧ xs.getD (n - 1) 0 ≠ 0))) := by simp [Hid, okBig, hn]
 generalize okBig neg xs = F at *
 rw [← hn] at hc hxc ⊢
 clear hn hxr
 unfold maxLen at hm
 rcases n with _ | n
 ·cases neg
  ·go_enter Tryz.func173, Tryz.ntmps173
   go_wp2
   go_ret
   exact ⟨ret_bool (by rw [HF.out]; simp), by repeat' (first | (with_reducible exact Below.refl _ _) | (with_reducible assumption) | (with_reducible refine below_drewN ?_) | (with_reducible refine Below.alloc ?_ ?_ _) | (with_reducible refine Below.drew ?_) | (with_reducible refine Below.setCell ?_ ?_ _) | (with_reducible refine Below.trans ?_ (Below.mono (by with_reducible assumption) ?_)) | go_size)⟩
  ·go_enter Tryz.func173, Tryz.ntmps173
   go_wp2
   go_ret
   exact ⟨ret_bool (by rw [HF.out]; simp), by repeat' (first | (with_reducible exact Below.refl _ _) | (with_reducible assumption) | (with_reducible refine below_drewN ?_) | (with_reducible refine Below.alloc ?_ ?_ _) | (with_reducible refine Below.drew ?_) | (with_reducible refine Below.setCell ?_ ?_ _) | (with_reducible refine Below.trans ?_ (Below.mono (by with_reducible assumption) ?_)) | go_size)⟩
 ·obtain ⟨b, o, rfl, hb, hcell⟩ := hxc (by omega)
  have h1 := hcell n (by omega)
  have HF2 := HF.out
  rw [show n + 1 - 1 = n from rfl] at HF2
  generalize xs.getD n 0 = x at *
  have HF3 := hid HF2
  clear HF2 HF hxc hcell
  have e1 : ((n + 1 : Nat) : Int) - 1 = (n : Int) := by omega
  by_cases hle : n + 1 ≤ 256
  ·have hne : (((n + 1 : Nat) : Int) == 0) = false := by simp; omega
   by_cases hz : x = 0
   ·subst hz
    go_enter Tryz.func173, Tryz.ntmps173
    go_wp2
    go_ret
    exact ⟨ret_bool (by rw [HF3.out]; simp), by repeat' (first | (with_reducible exact Below.refl _ _) | (with_reducible assumption) | (with_reducible refine below_drewN ?_) | (with_reducible refine Below.alloc ?_ ?_ _) | (with_reducible refine Below.drew ?_) | (with_reducible refine Below.setCell ?_ ?_ _) | (with_reducible refine Below.trans ?_ (Below.mono (by with_reducible assumption) ?_)) | go_size)⟩
   ·have hne2 : (((x : Nat) : Int) != 0) = true := by simp; omega
    have HZ := hid hz
    clear hz
    go_enter Tryz.func173, Tryz.ntmps173
    go_wp2
    go_ret
    exact ⟨ret_bool (by rw [HF3.out]; have := HZ.out; simp; omega), by repeat' (first | (with_reducible exact Below.refl _ _) | (with_reducible assumption) | (with_reducible refine below_drewN ?_) | (with_reducible refine Below.alloc ?_ ?_ _) | (with_reducible refine Below.drew ?_) | (with_reducible refine Below.setCell ?_ ?_ _) | (with_reducible refine Below.trans ?_ (Below.mono (by with_reducible assumption) ?_)) | go_size)⟩
  ·go_enter Tryz.func173, Tryz.ntmps173
   go_wp2
   go_ret
   exact ⟨ret_bool (by rw [HF3.out]; simp; omega), by repeat' (first | (with_reducible exact Below.refl _ _) | (with_reducible assumption) | (with_reducible refine below_drewN ?_) | (with_reducible refine Below.alloc ?_ ?_ _) | (with_reducible refine Below.drew ?_) | (with_reducible refine Below.setCell ?_ ?_ _) | (with_reducible refine Below.trans ?_ (Below.mono (by with_reducible assumption) ?_)) | go_size)⟩
theorem wrapneg_u64 (m : Nat) (h : m < 9223372036854775808) (h0 : 0 < m) : IntKind.u64.wrap (-IntKind.u64.wrap (-(m : Int))) = (m : Int) := by
  simp only [IntKind.wrap_u64]; omega
theorem val_two' (m : Nat) : val [m % 4294967296, m / 4294967296] = m := by simp only [val]; omega
theorem val_two (m : Nat) (h : m < 9223372036854775808) : val [m % 4294967296, m / 4294967296 % 4294967296] = m := by simp only [val]; omega
set_option maxHeartbeats 400000 in
theorem ref_FromInt (n : Int) (w : World) (h : -9223372036854775808 < n) (h' : n < 9223372036854775808) :
  Calls Tryz.prog 124 #[.int .i64 n] w (GivesZ [] w (decide (n < 0)) n.natAbs) := by
 by_cases hneg : n < 0
 ·obtain ⟨m, rfl⟩ : ∃ m : Nat, n = -(m : Int) := ⟨n.natAbs, by omega⟩
  have hm : m < 9223372036854775808 := by omega
  have H := hid (wrapneg_u64 m hm (by omega))
  rw [show (-(m : Int)).natAbs = m from by omega, decide_eq_true hneg]
  go_enter Tryz.func124, Tryz.ntmps124
  go_wp2_with fail
  rw [H.out, show ((m : Int) / 4294967296 % 4294967296) = ((m / 4294967296 % 4294967296 : Nat) : Int) from by omega, show ((m : Int) % 4294967296) = ((m % 4294967296 : Nat) : Int) from by omega]
  with_reducible refine (ref_big true _ [m % 4294967296, m / 4294967296 % 4294967296] _ (Rd32.new2 _ _ _ _ _ (by simp) (by omega) (by omega))).mono ?_
  rintro e w1 ⟨a, c, rfl, hv, ho, hb⟩
  rw [val_two m hm] at hv ho
  have HV := hid hv
  have HO := hid ho
  clear hv ho
  rw [val_two m hm]
  obtain ⟨hc, hf⟩ := bcell hb
  have q0 : w1.cell? ⟨w.heap.size, 0, none⟩ = some (.bool false) := by rw [hc _ _ (by simp; omega)]; simp
  have q1 : w1.cell? ⟨w.heap.size, 1, none⟩ = some (.slice none 0 0) := by rw [hc _ _ (by simp; omega)]; simp
  have hz := hb.size
  simp at hz
  have hoff : Off w.heap.size (.slice a (dig m).length c) := HO.out _ (by simp; omega) (fun u hu => by simp at hu; subst hu; exact Off.of_lt (by omega))
  have HOF := hid hoff
  clear hoff
  go_wp2
  refine bodyPost_ret (by simp [results, Tryz.results124, go_sem, q0, q1]; rfl) rfl ?_
  exact ⟨_, _, by rw [show decide (0 < m) = true from decide_eq_true (by omega)]; rfl, (HV.out.setCell HOF.out).setCell HOF.out, fun R hR _ => HO.out R (by simp; omega) (fun u hu => by simp at hu; subst hu; exact Off.of_lt (by omega)), by repeat' (first | (with_reducible exact Below.refl _ _) | (with_reducible assumption) | (with_reducible refine below_drewN ?_) | (with_reducible refine Below.alloc ?_ ?_ _) | (with_reducible refine Below.drew ?_) | (with_reducible refine Below.setCell ?_ ?_ _) | (with_reducible refine Below.trans ?_ (Below.mono (by with_reducible assumption) ?_)) | go_size)⟩
 ·obtain ⟨m, rfl⟩ : ∃ m : Nat, n = (m : Int) := ⟨n.natAbs, by omega⟩
  have hm : m < 9223372036854775808 := by omega
  rw [show (m : Int).natAbs = m from by omega, decide_eq_false hneg]
  go_enter Tryz.func124, Tryz.ntmps124
  go_wp2_with fail
  rw [show ((m : Int) / 4294967296) = ((m / 4294967296 : Nat) : Int) from by omega, show ((m : Int) % 4294967296) = ((m % 4294967296 : Nat) : Int) from by omega]
  with_reducible refine (ref_big false _ [m % 4294967296, m / 4294967296] _ (Rd32.new2 _ _ _ _ _ (by simp) (by omega) (by omega))).mono ?_
  rintro e w1 ⟨a, c, rfl, hv, ho, hb⟩
  rw [val_two' m] at hv ho
  have HV := hid hv
  have HO := hid ho
  clear hv ho
  rw [val_two' m]
  obtain ⟨hc, hf⟩ := bcell hb
  have q0 : w1.cell? ⟨w.heap.size, 0, none⟩ = some (.bool false) := by rw [hc _ _ (by simp; omega)]; simp
  have q1 : w1.cell? ⟨w.heap.size, 1, none⟩ = some (.slice none 0 0) := by rw [hc _ _ (by simp; omega)]; simp
  have hz := hb.size
  simp at hz
  have hoff : Off w.heap.size (.slice a (dig m).length c) := HO.out _ (by simp; omega) (fun u hu => by simp at hu; subst hu; exact Off.of_lt (by omega))
  have HOF := hid hoff
  clear hoff
  go_wp2
  refine bodyPost_ret (by simp [results, Tryz.results124, go_sem, q0, q1]; rfl) rfl ?_
  exact ⟨_, _, rfl, (HV.out.setCell HOF.out).setCell HOF.out, fun R hR _ => HO.out R (by simp; omega) (fun u hu => by simp at hu; subst hu; exact Off.of_lt (by omega)), by repeat' (first | (with_reducible exact Below.refl _ _) | (with_reducible assumption) | (with_reducible refine below_drewN ?_) | (with_reducible refine Below.alloc ?_ ?_ _) | (with_reducible refine Below.drew ?_) | (with_reducible refine Below.setCell ?_ ?_ _) | (with_reducible refine Below.trans ?_ (Below.mono (by with_reducible assumption) ?_)) | go_size)⟩
end Go.Proofs.YthblaeleogdfpaaGreatDoor.Fr
