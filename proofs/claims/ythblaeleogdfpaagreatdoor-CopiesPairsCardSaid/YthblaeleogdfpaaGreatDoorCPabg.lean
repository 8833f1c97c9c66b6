/- The walk of CopiesPairs. PRINTED by wip/tools/gen_rwl.py. -/
import Derived.Deep.RegionHeld3
import Derived.Test.YthblaeleogdfpaaGreatDoorCPabf
import Derived.Test.YthblaeleogdfpaaGreatDoorCPabd
set_option linter.unusedVariables false
set_option linter.unusedSimpArgs false
namespace Go.Proofs.YthblaeleogdfpaaGreatDoor
open Go.RowKit
set_option maxRecDepth 100000 in
set_option maxHeartbeats 16000000 in
theorem law36_pairs (raw : Ta) (rv : Value) (a : Option Addr) (n c : Nat) (w : World) (hz : SzT raw) (hv : RdCo w (· < w.heap.size) rv raw.cols) (hA : RdI w w.heap.size a n c) (hT : Tabs w) (hP : Pow w) :
  Calls Tryz.prog 3 #[.agg #[.int .i64 raw.id, .string raw.name, rv], .slice a n c] w (Ret w (.bool true)) := by
 have HAW := hid (fun W (hW : Below w.heap.size w W) => law36_awake W (hT.below hW) (hP.below hW (Nat.le_refl _)))
 have hnm : n ≤ maxLen := Nat.le_trans hA.1 hA.2.1
 have HLI := hid (fun W => kit_Light a n c W hnm)
 have HRO := hid (fun W (hW : Below w.heap.size w W) (hg : n ≤ 500) => kit_Roll a n c W (rdI_later hA hW) hg (hP.below hW (Nat.le_refl _)))
 have HV := hid hv
 have HSZ := hid hz
 have HTT := hid hT
 have HPP := hid hP
 obtain ⟨cv, ⟨ra, rc, rfl, hc, hm, hr⟩, hkid⟩ := hv
 have HR := hid hr
 have HKD : Hid (∀ q, q < raw.cols.length → ∃ a k m, cv q = .slice a k m ∧ k ≤ m ∧ m ≤ maxLen) := hid (fun q hq => by
  obtain ⟨a, c, e, h1, h2, -⟩ := hkid q hq
  exact ⟨a, _, c, e, h1, h2⟩)
 have HSN := hid (fun q (hq : q < raw.cols.length) => (hz.2.2 _ (getD_mem hq Co.z)).1)
 unfold maxLen at hm
 clear hr hkid hz hT hP hA
 generalize hri : raw.id = rid at *
 have HRI := hid hri
 clear hri
 generalize hrn : raw.name = rnm at *
 have HRN := hid hrn
 clear hrn
 generalize hcs : raw.cols = xs at *
 have HCS := hid hcs
 clear hcs
 generalize hL : xs.length = L at *
 have HLL := hid hL
 clear hL
 have HX0 := hid (BoxN.new w #[.int .i64 rid, .string rnm, .slice ra L rc] 24)
 have HB0 := hid ((Below.refl w.heap.size w).alloc (Nat.le_refl _) (.cells #[.int .i64 rid, .string rnm, .slice ra L rc] 24))
 have hz0 : (w.alloc (.cells #[.int .i64 rid, .string rnm, .slice ra L rc] 24)).heap.size = w.heap.size + 1 := by simp
 have c2 := HX0.out.cell 2 rfl
 by_cases hg : n ≤ 500
 ·rw [decide_eq_true hg] at HLI
  by_cases hL10 : 10 < L
  ·have hd : decide ((10 : Int) < (L : Int)) = true := decide_eq_true (by omega)
   go_enter Tryz.func3, Tryz.ntmps3
   generalize hLA : Code.loop _ = LA
   generalize hLB : Code.loop _ = LB
   clear hLA hLB
   go_wp2_with fail
   with_reducible refine (HLI.out _).mono ?_
   generalize w.alloc (.cells #[.int .i64 rid, .string rnm, .slice ra L rc] 24) = W0 at *
   rintro e w0 ⟨rfl, rfl⟩
   go_wp2_with fail
   with_reducible refine (HAW.out _ HB0.out).mono ?_
   rintro e w1 ⟨rfl, hb1⟩
   have HB1 := hid (HB0.out.trans (hb1.mono HB0.out.size))
   clear hb1
   go_wp2
   go_ret
   exact ⟨rfl, HB1.out⟩
  ·have hd : decide ((10 : Int) < (L : Int)) = false := decide_eq_false (by omega)
   go_enter Tryz.func3, Tryz.ntmps3
   generalize hLA : Code.loop _ = LA
   generalize hLB : Code.loop _ = LB
   go_wp2_with fail
   with_reducible refine (HLI.out _).mono ?_
   generalize w.alloc (.cells #[.int .i64 rid, .string rnm, .slice ra L rc] 24) = W0 at *
   rintro e w0 ⟨rfl, rfl⟩
   go_wp2_with fail
   clear c2 hd
   subst hLA
   go_loopg [43] L (fun N i wr => ∃ q : Nat, q + N = L ∧ i = .int .i64 (q : Int) ∧ Hid (Below W0.heap.size W0 wr))
   case atStart => exact ⟨0, by omega, rfl, hid (Below.refl _ _)⟩
   case round =>
    obtain ⟨q, hq, rfl, HB⟩ := hrel
    have hwz := HB.out.size
    by_cases hp : 0 < gk
    ·obtain ⟨b, o, rfl, hb, hcell⟩ := HR.out (by omega)
     have hb' : b < w.heap.size := hb
     have HBW := hid (HB0.out.trans (HB.out.mono (by omega)))
     have k0 : wr.cell? ⟨b, o + q * 2, none⟩ = some (.string (xs.getD q Co.z).name) := (HBW.out.cell (p := ⟨b, o + q * 2, none⟩) hb').trans (hcell q (by omega) 0 (by omega))
     have k1 : wr.cell? ⟨b, o + q * 2 + 1, none⟩ = some (cv q) := (HBW.out.cell (p := ⟨b, o + q * 2 + 1, none⟩) hb').trans (hcell q (by omega) 1 (by omega))
     obtain ⟨ka, kn, kc, hke, hk1, hk2⟩ := HKD.out q (by omega)
     unfold maxLen at hk2
     rw [hke] at k1
     have hsn := HSN.out q (by omega)
     generalize (xs.getD q Co.z).name = s at *
     have HBA := hid (HB.out.alloc hwz (.cells #[.string s, .slice ka kn kc] 30))
     have HBWA := hid (HBW.out.alloc (by omega) (.cells #[.string s, .slice ka kn kc] 30))
     have hxc := BoxN.new wr #[.string s, .slice ka kn kc] 30
     have e0 := hxc.cell 0 rfl
     have e1 := hxc.cell 1 rfl
     clear hxc hcell hke
     by_cases h1 : 10 < kn
     ·have hd1 : decide ((10 : Int) < (kn : Int)) = true := decide_eq_true (by omega)
      go_wp2_with fail
      with_reducible refine (HAW.out _ HBWA.out).mono ?_
      rintro e w1 ⟨rfl, hb1⟩
      have HB1 := hid (HBWA.out.trans (hb1.mono HBWA.out.size))
      clear hb1
      go_wp2
      go_ret
      exact ⟨rfl, HB1.out⟩
     ·have hd1 : decide ((10 : Int) < (kn : Int)) = false := decide_eq_false (by omega)
      by_cases h2 : 100 < s.size
      ·have hd2 : decide ((100 : Int) < (s.size : Int)) = true := decide_eq_true (by omega)
       go_wp2_with fail
       with_reducible refine (HAW.out _ HBWA.out).mono ?_
       rintro e w1 ⟨rfl, hb1⟩
       have HB1 := hid (HBWA.out.trans (hb1.mono HBWA.out.size))
       clear hb1
       go_wp2
       go_ret
       exact ⟨rfl, HB1.out⟩
      ·have hd2 : decide ((100 : Int) < (s.size : Int)) = false := decide_eq_false (by omega)
       go_wp2
       go_roundg (gk - 1)
       case rel => exact ⟨q + 1, by omega, by go_num, HBA⟩
       case measure => omega
    ·obtain rfl : q = L := by omega
     have HBW := hid (HB0.out.trans (HB.out.mono (by omega)))
     have HXW := hid (HX0.out.below HB.out HX0.out.lt)
     clear HKD HSN HR HX0
     go_wp2_with fail
     with_reducible refine (HRO.out _ HBW.out hg).mono ?_
     rintro e w1 ⟨rfl, hd1, hb1⟩
     have hwg : w.heap.size ≤ wr.heap.size := HBW.out.size
     have hwg1 : w.heap.size < wr.heap.size := HXW.out.lt
     have HB1 := hid (HBW.out.trans (hb1.mono hwg))
     have HX1 := hid (HXW.out.below hb1 hwg1)
     clear HB HBW hwz
     generalize wr.heap.size = g0 at *
     have hgz := hd1.lt
     have HD1 := hid hd1
     clear hd1 hb1
     go_wp2_with fail
     with_reducible refine (kit_Table g0 1 _ HD1.out).mono ?_
     rintro e w2 ⟨t1, v1, rfl, hid1, hok1, hco1, hd2, hr2⟩
     have htv1 := hok1.valid (by omega) (by omega)
     have HTV1 := hid htv1
     have HB2 := hid (HB1.out.trans (hr2.below (B' := w.heap.size) hwg (by omega)))
     have HX2 := hid (HX1.out.roll hr2 (by omega) (by omega))
     have hz2 := hr2.size
     have HRD1 := hid hco1.read
     obtain ⟨L1, hL1⟩ := hco1.owns
     obtain ⟨l1, hl1⟩ : ∃ l1, l1 = t1.cols.length := ⟨_, rfl⟩
     have HLE1 := hid hl1
     have hl1b := htv1.2.2.2.1
     rw [← hl1] at hL1 hl1b
     obtain ⟨a1, k1, rfl⟩ := own_slice hL1
     have HSZ1 := hid (szT_of htv1)
     rw [hid1]
     have HID1 := hid hid1
     have HD2 := hid hd2
     clear hok1 htv1 hco1 hd2 hr2 hL1 hl1 hid1
     generalize ht1n : t1.name = t1n at *
     have HTN1 := hid ht1n
     clear ht1n
     have hx8 := BoxN.new w2 #[.int .i64 1, .string t1n, .slice a1 l1 k1] 24
     have HX8 := hid hx8
     have HX3 := hid (HX2.out.alloc (.cells #[.int .i64 1, .string t1n, .slice a1 l1 k1] 24))
     have HD3 := hid (HD2.out.alloc (.cells #[.int .i64 1, .string t1n, .slice a1 l1 k1] 24))
     have HB3 := hid (HB2.out.alloc HB2.out.size (.cells #[.int .i64 1, .string t1n, .slice a1 l1 k1] 24))
     have hz3 : (w2.alloc (.cells #[.int .i64 1, .string t1n, .slice a1 l1 k1] 24)).heap.size = w2.heap.size + 1 := by simp
     have HRD3 := hid (HRD1.out.keep (w' := w2.alloc (.cells #[.int .i64 1, .string t1n, .slice a1 l1 k1] 24)) fun p hp => World.cell?_alloc_lt _ _ _ hp.2)
     have e0 := hx8.cell 0 rfl
     have e1 := hx8.cell 1 rfl
     have e2 := hx8.cell 2 rfl
     clear hx8
     go_wp2_with fail
     generalize w2.alloc (.cells #[.int .i64 1, .string t1n, .slice a1 l1 k1] 24) = W3 at *
     generalize w2.heap.size = b8 at *
     have HDE : Hid (Calls Tryz.prog 11 #[.pointer (some ⟨g0, 0, none⟩), .agg #[.int .i64 1, .string t1n, .slice a1 l1 k1], .int .i64 2] W3 (KDer W3 g0 2)) := hid (by
      have h := kit_Derived g0 t1 (.slice a1 l1 k1) 2 W3 HD3.out ⟨w, HTT.out, hwg, HB3.out⟩ HTV1.out (HRD3.out.more fun b hb => ⟨by have := hb.2; omega, by have := hb.1; omega⟩)
      rw [HID1.out, HTN1.out] at h
      exact h)
     with_reducible refine HDE.out.mono ?_
     clear e0 e1 e2 HDE
     rintro e w4 ⟨t2n, x2, v2, rfl, htw2, hco2, hd4, hr4⟩
     have HTV2 := hid (htw2.tab (id := 2) (by omega) (by omega))
     have HB4 := hid (HB3.out.trans (hr4.below (B' := w.heap.size) hwg (by omega)))
     have HX4 := hid (HX3.out.roll hr4 (by have := HX3.out.lt; omega) (by omega))
     have HX84 := hid (HX8.out.roll hr4 (by omega) (by omega))
     have HRD4 := hid (HRD3.out.keep (w' := w4) fun p hp => hr4.cell (p := p) (by have := hp.2; omega) (by have := hp.1; omega))
     have hz4 := hr4.size
     have HRQ := hid hco2.read
     obtain ⟨L2, hL2⟩ := hco2.owns
     obtain ⟨l2, hl2⟩ : ∃ l2, l2 = x2.length := ⟨_, rfl⟩
     have HLE2 := hid hl2
     have hl2b := htw2.2.1
     rw [← hl2] at hL2 hl2b
     obtain ⟨a2, k2, rfl⟩ := own_slice hL2
     have HSZ2 := hid (szT_of HTV2.out)
     have HD4 := hid hd4
     clear htw2 hco2 hd4 hr4 hL2 hl2 HRD1 HRD3
     have hx9 := BoxN.new w4 #[.int .i64 2, .string t2n, .slice a2 l2 k2] 24
     have HX9 := hid hx9
     have HX5 := hid (HX4.out.alloc (.cells #[.int .i64 2, .string t2n, .slice a2 l2 k2] 24))
     have HX85 := hid (HX84.out.alloc (.cells #[.int .i64 2, .string t2n, .slice a2 l2 k2] 24))
     have HD5 := hid (HD4.out.alloc (.cells #[.int .i64 2, .string t2n, .slice a2 l2 k2] 24))
     have HB5 := hid (HB4.out.alloc HB4.out.size (.cells #[.int .i64 2, .string t2n, .slice a2 l2 k2] 24))
     have hz5 : (w4.alloc (.cells #[.int .i64 2, .string t2n, .slice a2 l2 k2] 24)).heap.size = w4.heap.size + 1 := by simp
     have HRA5 := hid (HRD4.out.keep (w' := w4.alloc (.cells #[.int .i64 2, .string t2n, .slice a2 l2 k2] 24)) fun p hp => World.cell?_alloc_lt _ _ _ (by have := hp.2; omega))
     have HRB5 := hid (HRQ.out.keep (w' := w4.alloc (.cells #[.int .i64 2, .string t2n, .slice a2 l2 k2] 24)) fun p hp => World.cell?_alloc_lt _ _ _ hp.2)
     clear hx9 HRQ HRD4
     go_upto_region 12 with fail
     generalize w4.alloc (.cells #[.int .i64 2, .string t2n, .slice a2 l2 k2] 24) = W5 at *
     generalize w4.heap.size = b9 at *
     have h8l : b8 < W5.heap.size := HX85.out.lt
     have h9l : b9 < W5.heap.size := HX9.out.lt
     have h8g : b8 ≠ g0 := by omega
     have h9g : b9 ≠ g0 := by omega
     have hwl : w.heap.size < W5.heap.size := HX5.out.lt
     have hwgn : w.heap.size ≠ g0 := by omega
     have HG := hid (fun W (hW : Roll W5.heap.size g0 W5 W) => (⟨(HX5.out.roll hW hwl hwgn).cell 0 rfl, (HX5.out.roll hW hwl hwgn).cell 1 rfl, (HX5.out.roll hW hwl hwgn).cell 2 rfl, (HX85.out.roll hW h8l h8g).cell 0 rfl, (HX85.out.roll hW h8l h8g).cell 1 rfl, (HX85.out.roll hW h8l h8g).cell 2 rfl, (HX9.out.roll hW h9l h9g).cell 0 rfl, (HX9.out.roll hW h9l h9g).cell 1 rfl, (HX9.out.roll hW h9l h9g).cell 2 rfl⟩ : W.cell? ⟨w.heap.size, 0, none⟩ = some (.int .i64 rid) ∧ W.cell? ⟨w.heap.size, 1, none⟩ = some (.string rnm) ∧ W.cell? ⟨w.heap.size, 2, none⟩ = some (.slice ra q rc) ∧ W.cell? ⟨b8, 0, none⟩ = some (.int .i64 1) ∧ W.cell? ⟨b8, 1, none⟩ = some (.string t1n) ∧ W.cell? ⟨b8, 2, none⟩ = some (.slice a1 l1 k1) ∧ W.cell? ⟨b9, 0, none⟩ = some (.int .i64 2) ∧ W.cell? ⟨b9, 1, none⟩ = some (.string t2n) ∧ W.cell? ⟨b9, 2, none⟩ = some (.slice a2 l2 k2)))
     have HDR := hid (show Roll W5.heap.size g0 W5 W5.drew from (Roll.refl _ _ _).trans ⟨rfl, rfl, rfl, Nat.le_refl _, fun _ _ _ => rfl⟩)
     have HDD := hid (show KDice W5.drew g0 from HD5.out.drew)
     refine wp_region_held_drew (S := fun W => W.cell? ⟨w.heap.size, 0, none⟩ = some (.int .i64 rid) ∧ W.cell? ⟨w.heap.size, 1, none⟩ = some (.string rnm) ∧ W.cell? ⟨w.heap.size, 2, none⟩ = some (.slice ra q rc) ∧ W.cell? ⟨b8, 0, none⟩ = some (.int .i64 1) ∧ W.cell? ⟨b8, 1, none⟩ = some (.string t1n) ∧ W.cell? ⟨b8, 2, none⟩ = some (.slice a1 l1 k1) ∧ W.cell? ⟨b9, 0, none⟩ = some (.int .i64 2) ∧ W.cell? ⟨b9, 1, none⟩ = some (.string t2n) ∧ W.cell? ⟨b9, 2, none⟩ = some (.slice a2 l2 k2)) (by kernel_rfl) (HG.out _ HDR.out) (fun hHeld => ?_)
     have hzd : W5.drew.heap.size = W5.heap.size := rfl
     generalize W5.drew = Wd at *
     refine wpAnyH_take (i := 0) (v := ?_) (by simp only [List.getElem?_toArray, List.getElem?_cons_zero, List.getElem?_cons_succ]; rfl) (by kernel_rfl) (by kernel_rfl) (by kernel_rfl) (by intro _ _ _ h; exact h) (Or.inl ⟨by rfl, ?_⟩) (by assumption) ?_
     rotate_left
     ·(intro w' hSw; (try dsimp only at hSw); go_simp) <;> with_reducible rfl
     try simp only [Act.put, List.setIfInBounds_toArray, List.set_cons_zero, List.set_cons_succ]
     refine wpAnyH_take (i := 1) (v := ?_) (by simp only [List.getElem?_toArray, List.getElem?_cons_zero, List.getElem?_cons_succ]; rfl) (by kernel_rfl) (by kernel_rfl) (by kernel_rfl) (by intro _ _ _ h; exact h) (Or.inl ⟨by rfl, ?_⟩) (by assumption) ?_
     rotate_left
     ·(intro w' hSw; (try dsimp only at hSw); go_simp) <;> with_reducible rfl
     try simp only [Act.put, List.setIfInBounds_toArray, List.set_cons_zero, List.set_cons_succ]
     refine wpAnyH_take (i := 2) (v := ?_) (by simp only [List.getElem?_toArray, List.getElem?_cons_zero, List.getElem?_cons_succ]; rfl) (by kernel_rfl) (by kernel_rfl) (by kernel_rfl) (by intro _ _ _ h; exact h) (Or.inl ⟨by rfl, ?_⟩) (by assumption) ?_
     rotate_left
     ·(intro w' hSw; (try dsimp only at hSw); go_simp) <;> with_reducible rfl
     try simp only [Act.put, List.setIfInBounds_toArray, List.set_cons_zero, List.set_cons_succ]
     refine wpAnyH_take (i := 3) (v := ?_) (by simp only [List.getElem?_toArray, List.getElem?_cons_zero, List.getElem?_cons_succ]; rfl) (by kernel_rfl) (by kernel_rfl) (by kernel_rfl) (by intro _ _ _ h; exact h) (Or.inl ⟨by rfl, ?_⟩) (by assumption) ?_
     rotate_left
     ·(intro w' hSw; (try dsimp only at hSw); go_simp) <;> with_reducible rfl
     try simp only [Act.put, List.setIfInBounds_toArray, List.set_cons_zero, List.set_cons_succ]
     refine wpAnyH_take (i := 4) (v := ?_) (by simp only [List.getElem?_toArray, List.getElem?_cons_zero, List.getElem?_cons_succ]; rfl) (by kernel_rfl) (by kernel_rfl) (by kernel_rfl) (by intro _ _ _ h; exact h) (Or.inl ⟨by rfl, ?_⟩) (by assumption) ?_
     rotate_left
     ·(intro w' hSw; (try dsimp only at hSw); go_simp) <;> with_reducible rfl
     try simp only [Act.put, List.setIfInBounds_toArray, List.set_cons_zero, List.set_cons_succ]
     refine wpAnyH_take (i := 5) (v := ?_) (by simp only [List.getElem?_toArray, List.getElem?_cons_zero, List.getElem?_cons_succ]; rfl) (by kernel_rfl) (by kernel_rfl) (by kernel_rfl) (by intro _ _ _ h; exact h) (Or.inl ⟨by rfl, ?_⟩) (by assumption) ?_
     rotate_left
     ·(intro w' hSw; (try dsimp only at hSw); go_simp) <;> with_reducible rfl
     try simp only [Act.put, List.setIfInBounds_toArray, List.set_cons_zero, List.set_cons_succ]
     refine wpAnyH_take (i := 6) (v := ?_) (by simp only [List.getElem?_toArray, List.getElem?_cons_zero, List.getElem?_cons_succ]; rfl) (by kernel_rfl) (by kernel_rfl) (by kernel_rfl) (by intro _ _ _ h; exact h) (Or.inl ⟨by rfl, ?_⟩) (by assumption) ?_
     rotate_left
     ·(intro w' hSw; (try dsimp only at hSw); go_simp) <;> with_reducible rfl
     try simp only [Act.put, List.setIfInBounds_toArray, List.set_cons_zero, List.set_cons_succ]
     refine wpAnyH_take (i := 7) (v := ?_) (by simp only [List.getElem?_toArray, List.getElem?_cons_zero, List.getElem?_cons_succ]; rfl) (by kernel_rfl) (by kernel_rfl) (by kernel_rfl) (by intro _ _ _ h; exact h) (Or.inl ⟨by rfl, ?_⟩) (by assumption) ?_
     rotate_left
     ·(intro w' hSw; (try dsimp only at hSw); go_simp) <;> with_reducible rfl
     try simp only [Act.put, List.setIfInBounds_toArray, List.set_cons_zero, List.set_cons_succ]
     refine wpAnyH_take (i := 10) (v := ?_) (by simp only [List.getElem?_toArray, List.getElem?_cons_zero, List.getElem?_cons_succ]; rfl) (by kernel_rfl) (by kernel_rfl) (by kernel_rfl) (by intro _ _ _ h; exact h) (Or.inl ⟨by rfl, ?_⟩) (by assumption) ?_
     rotate_left
     ·(intro w' hSw; (try dsimp only at hSw); go_simp) <;> with_reducible rfl
     try simp only [Act.put, List.setIfInBounds_toArray, List.set_cons_zero, List.set_cons_succ]
     refine wpAnyH_take (i := 11) (v := ?_) (by simp only [List.getElem?_toArray, List.getElem?_cons_zero, List.getElem?_cons_succ]; rfl) (by kernel_rfl) (by kernel_rfl) (by kernel_rfl) (by intro _ _ _ h; exact h) (Or.inl ⟨by rfl, ?_⟩) (by assumption) ?_
     rotate_left
     ·(intro w' hSw; (try dsimp only at hSw); go_simp) <;> with_reducible rfl
     try simp only [Act.put, List.setIfInBounds_toArray, List.set_cons_zero, List.set_cons_succ]
     refine wpAnyH_take (i := 12) (v := ?_) (by simp only [List.getElem?_toArray, List.getElem?_cons_zero, List.getElem?_cons_succ]; rfl) (by kernel_rfl) (by kernel_rfl) (by kernel_rfl) (by intro _ _ _ h; exact h) (Or.inl ⟨by rfl, ?_⟩) (by assumption) ?_
     rotate_left
     ·(intro w' hSw; (try dsimp only at hSw); go_simp) <;> with_reducible rfl
     try simp only [Act.put, List.setIfInBounds_toArray, List.set_cons_zero, List.set_cons_succ]
     refine wpAnyH_take (i := 13) (v := ?_) (by simp only [List.getElem?_toArray, List.getElem?_cons_zero, List.getElem?_cons_succ]; rfl) (by kernel_rfl) (by kernel_rfl) (by kernel_rfl) (by intro _ _ _ h; exact h) (Or.inl ⟨by rfl, ?_⟩) (by assumption) ?_
     rotate_left
     ·(intro w' hSw; (try dsimp only at hSw); go_simp) <;> with_reducible rfl
     try simp only [Act.put, List.setIfInBounds_toArray, List.set_cons_zero, List.set_cons_succ]
     refine wpAnyH_take (i := 14) (v := ?_) (by simp only [List.getElem?_toArray, List.getElem?_cons_zero, List.getElem?_cons_succ]; rfl) (by kernel_rfl) (by kernel_rfl) (by kernel_rfl) (by intro _ _ _ h; exact h) (Or.inl ⟨by rfl, ?_⟩) (by assumption) ?_
     rotate_left
     ·(intro w' hSw; (try dsimp only at hSw); go_simp) <;> with_reducible rfl
     try simp only [Act.put, List.setIfInBounds_toArray, List.set_cons_zero, List.set_cons_succ]
     refine wpAnyH_take (i := 15) (v := ?_) (by simp only [List.getElem?_toArray, List.getElem?_cons_zero, List.getElem?_cons_succ]; rfl) (by kernel_rfl) (by kernel_rfl) (by kernel_rfl) (by intro _ _ _ h; exact h) (Or.inl ⟨by rfl, ?_⟩) (by assumption) ?_
     rotate_left
     ·(intro w' hSw; (try dsimp only at hSw); go_simp) <;> with_reducible rfl
     try simp only [Act.put, List.setIfInBounds_toArray, List.set_cons_zero, List.set_cons_succ]
     refine wpAnyH_take (i := 18) (v := ?_) (by simp only [List.getElem?_toArray, List.getElem?_cons_zero, List.getElem?_cons_succ]; rfl) (by kernel_rfl) (by kernel_rfl) (by kernel_rfl) (by intro _ _ _ h; exact h) (Or.inl ⟨by rfl, ?_⟩) (by assumption) ?_
     rotate_left
     ·(intro w' hSw; (try dsimp only at hSw); go_simp) <;> with_reducible rfl
     try simp only [Act.put, List.setIfInBounds_toArray, List.set_cons_zero, List.set_cons_succ]
     refine wpAnyH_ready (rs := [8]) (by kernel_rfl) (by simp) ?_
     refine AllReadyH.cons (by simp only [List.getElem?_toArray, List.getElem?_cons_zero, List.getElem?_cons_succ]; rfl) (fun K hK => ?_) AllReadyH.nil
     go_simp
     go_at_call 10
     with_reducible refine (kit_Table g0 3 _ HDD.out).mono ?_
     rintro e w6 ⟨t3, v3, rfl, hid3, hok3, hco3, -, hr6⟩
     have htv3 := hok3.valid (by omega) (by omega)
     have HTV3 := hid htv3
     have HR6 := hid (HDR.out.trans (hr6.mono (by omega)))
     have HRD6 := hid hco3.read
     obtain ⟨L3, hL3⟩ := hco3.owns
     obtain ⟨l3, hl3⟩ : ∃ l3, l3 = t3.cols.length := ⟨_, rfl⟩
     have HLE3 := hid hl3
     have hl3b := htv3.2.2.2.1
     rw [← hl3] at hL3 hl3b
     obtain ⟨a3, k3, rfl⟩ := own_slice hL3
     have HSZ3 := hid (szT_of htv3)
     rw [hid3]
     have HID3 := hid hid3
     have hz6 := hr6.size
     clear hok3 htv3 hco3 hr6 hL3 hl3 hid3
     generalize ht3n : t3.name = t3n at *
     have HTN3 := hid ht3n
     clear ht3n
     (try go_wp2_with fail)
     refine hK.out _ _ (HG.out _ HR6.out) (fun hHeld => ?_)
     clear hK K
     try simp only [Act.put, List.setIfInBounds_toArray, List.set_cons_zero, List.set_cons_succ]
     refine wpAnyH_take (i := 9) (v := ?_) (by simp only [List.getElem?_toArray, List.getElem?_cons_zero, List.getElem?_cons_succ]; rfl) (by kernel_rfl) (by kernel_rfl) (by kernel_rfl) (by intro _ _ _ h; exact h) (Or.inl ⟨by rfl, ?_⟩) (by assumption) ?_
     rotate_left
     ·(intro w' hSw; (try dsimp only at hSw); go_simp) <;> with_reducible rfl
     try simp only [Act.put, List.setIfInBounds_toArray, List.set_cons_zero, List.set_cons_succ]
     refine wpAnyH_ready (rs := [16]) (by kernel_rfl) (by simp) ?_
     refine AllReadyH.cons (by simp only [List.getElem?_toArray, List.getElem?_cons_zero, List.getElem?_cons_succ]; rfl) (fun K hK => ?_) AllReadyH.nil
     go_simp
     have HR7 := hid (HR6.out.alloc (by omega) (.cells #[.int .i64 1, .string t1n, .slice a1 l1 k1, .int .i64 2, .string t2n, .slice a2 l2 k2, .int .i64 2, .string t2n, .slice a2 l2 k2, .int .i64 1, .string t1n, .slice a1 l1 k1, .int .i64 1, .string t1n, .slice a1 l1 k1, .int .i64 3, .string t3n, .slice a3 l3 k3, .int .i64 rid, .string rnm, .slice ra q rc, .int .i64 1, .string t1n, .slice a1 l1 k1, .int .i64 1, .string t1n, .slice a1 l1 k1, .int .i64 1, .string t1n, .slice a1 l1 k1] 35))
     refine hK.out _ _ (HG.out _ HR7.out) (fun hHeld => ?_)
     clear hK K
     try simp only [Act.put, List.setIfInBounds_toArray, List.set_cons_zero, List.set_cons_succ]
     refine wpAnyH_take (i := 17) (v := ?_) (by simp only [List.getElem?_toArray, List.getElem?_cons_zero, List.getElem?_cons_succ]; rfl) (by kernel_rfl) (by kernel_rfl) (by kernel_rfl) (by intro _ _ _ h; exact h) (Or.inl ⟨by rfl, ?_⟩) (by assumption) ?_
     rotate_left
     ·(intro w' hSw; (try dsimp only at hSw); go_simp) <;> with_reducible rfl
     try simp only [Act.put, List.setIfInBounds_toArray, List.set_cons_zero, List.set_cons_succ]
     refine wpAnyH_done (by kernel_rfl) ?_ _
     have HBW7 := hid (HB5.out.trans (HR7.out.below (B' := w.heap.size) hwg (by omega)))
     have HXP := hid (BoxN.new w6 #[.int .i64 1, .string t1n, .slice a1 l1 k1, .int .i64 2, .string t2n, .slice a2 l2 k2, .int .i64 2, .string t2n, .slice a2 l2 k2, .int .i64 1, .string t1n, .slice a1 l1 k1, .int .i64 1, .string t1n, .slice a1 l1 k1, .int .i64 3, .string t3n, .slice a3 l3 k3, .int .i64 rid, .string rnm, .slice ra q rc, .int .i64 1, .string t1n, .slice a1 l1 k1, .int .i64 1, .string t1n, .slice a1 l1 k1, .int .i64 1, .string t1n, .slice a1 l1 k1] 35)
     have hz7 : (w6.alloc (.cells #[.int .i64 1, .string t1n, .slice a1 l1 k1, .int .i64 2, .string t2n, .slice a2 l2 k2, .int .i64 2, .string t2n, .slice a2 l2 k2, .int .i64 1, .string t1n, .slice a1 l1 k1, .int .i64 1, .string t1n, .slice a1 l1 k1, .int .i64 3, .string t3n, .slice a3 l3 k3, .int .i64 rid, .string rnm, .slice ra q rc, .int .i64 1, .string t1n, .slice a1 l1 k1, .int .i64 1, .string t1n, .slice a1 l1 k1, .int .i64 1, .string t1n, .slice a1 l1 k1] 35)).heap.size = w6.heap.size + 1 := by simp
     have HC6 := hid (fun (p : Addr) (hp : p.block < w6.heap.size) => World.cell?_alloc_lt w6 (.cells #[.int .i64 1, .string t1n, .slice a1 l1 k1, .int .i64 2, .string t2n, .slice a2 l2 k2, .int .i64 2, .string t2n, .slice a2 l2 k2, .int .i64 1, .string t1n, .slice a1 l1 k1, .int .i64 1, .string t1n, .slice a1 l1 k1, .int .i64 3, .string t3n, .slice a3 l3 k3, .int .i64 rid, .string rnm, .slice ra q rc, .int .i64 1, .string t1n, .slice a1 l1 k1, .int .i64 1, .string t1n, .slice a1 l1 k1, .int .i64 1, .string t1n, .slice a1 l1 k1] 35) p hp)
     generalize w6.alloc (.cells #[.int .i64 1, .string t1n, .slice a1 l1 k1, .int .i64 2, .string t2n, .slice a2 l2 k2, .int .i64 2, .string t2n, .slice a2 l2 k2, .int .i64 1, .string t1n, .slice a1 l1 k1, .int .i64 1, .string t1n, .slice a1 l1 k1, .int .i64 3, .string t3n, .slice a3 l3 k3, .int .i64 rid, .string rnm, .slice ra q rc, .int .i64 1, .string t1n, .slice a1 l1 k1, .int .i64 1, .string t1n, .slice a1 l1 k1, .int .i64 1, .string t1n, .slice a1 l1 k1] 35) = W7 at *
     generalize hpb : w6.heap.size = pb at *
     have HT0 : Hid (TabAt W7 raw rid rnm ra q rc) := hid ⟨HRI.out, HRN.out, by rw [HCS.out]; exact HLL.out, by
      rw [HCS.out]
      exact (HV.out.keep fun p (hp : p.block < w.heap.size) => HBW7.out.cell (p := p) hp).more fun b (hb : b < w.heap.size) => by omega, HSZ.out, by omega⟩
     have HT1 : Hid (TabAt W7 t1 1 t1n a1 l1 k1) := hid ⟨HID1.out, HTN1.out, HLE1.out.symm, (HRA5.out.keep fun p hp => HR7.out.cell (p := p) (by have := hp.2; omega) (by have := hp.1; omega)).more fun b hb => (by have := hb.2; omega), HSZ1.out, by omega⟩
     have HT2 : Hid (TabAt W7 ⟨2, t2n, x2⟩ 2 t2n a2 l2 k2) := hid ⟨rfl, rfl, HLE2.out.symm, (HRB5.out.keep fun p hp => HR7.out.cell (p := p) (by have := hp.2; omega) (by have := hp.1; omega)).more fun b hb => (by have := hb.2; omega), HSZ2.out, by omega⟩
     have HT3 : Hid (TabAt W7 t3 3 t3n a3 l3 k3) := hid ⟨HID3.out, HTN3.out, HLE3.out.symm, (HRD6.out.keep fun p hp => HC6.out p (by have := hp.2; omega)).more fun b hb => (by have := hb.2; omega), HSZ3.out, by omega⟩
     have HPAIR : Hid (∀ i, i < 5 → ∃ x y xa ya xk yk, PairAt W7 pb i x y xa ya xk yk) := hid (fun i hi => by
      match i, hi with
      | 0, _ => exact ⟨t1, ⟨2, t2n, x2⟩, a1, a2, k1, k2, pair_at HT1.out HT2.out (HXP.out.cell 0 rfl) (HXP.out.cell 1 rfl) (HXP.out.cell 2 rfl) (HXP.out.cell 3 rfl) (HXP.out.cell 4 rfl) (HXP.out.cell 5 rfl)⟩
      | 1, _ => exact ⟨⟨2, t2n, x2⟩, t1, a2, a1, k2, k1, pair_at HT2.out HT1.out (HXP.out.cell 6 rfl) (HXP.out.cell 7 rfl) (HXP.out.cell 8 rfl) (HXP.out.cell 9 rfl) (HXP.out.cell 10 rfl) (HXP.out.cell 11 rfl)⟩
      | 2, _ => exact ⟨t1, t3, a1, a3, k1, k3, pair_at HT1.out HT3.out (HXP.out.cell 12 rfl) (HXP.out.cell 13 rfl) (HXP.out.cell 14 rfl) (HXP.out.cell 15 rfl) (HXP.out.cell 16 rfl) (HXP.out.cell 17 rfl)⟩
      | 3, _ => exact ⟨raw, t1, ra, a1, rc, k1, pair_at HT0.out HT1.out (HXP.out.cell 18 rfl) (HXP.out.cell 19 rfl) (HXP.out.cell 20 rfl) (HXP.out.cell 21 rfl) (HXP.out.cell 22 rfl) (HXP.out.cell 23 rfl)⟩
      | 4, _ => exact ⟨t1, t1, a1, a1, k1, k1, pair_at HT1.out HT1.out (HXP.out.cell 24 rfl) (HXP.out.cell 25 rfl) (HXP.out.cell 26 rfl) (HXP.out.cell 27 rfl) (HXP.out.cell 28 rfl) (HXP.out.cell 29 rfl)⟩
      | i + 5, h => omega)
     have hpbl : pb < W7.heap.size := by omega
     have HTP := hid (fun W (hW : Below W7.heap.size W7 W) => (⟨HTT.out.below (HBW7.out.trans (hW.mono HBW7.out.size)), HPP.out.below (HBW7.out.trans (hW.mono HBW7.out.size)) (Nat.le_refl _), HBW7.out.trans (hW.mono HBW7.out.size)⟩ : Tabs W ∧ Pow W ∧ Below w.heap.size w W))
     clear HT0 HT1 HT2 HT3 HXP HC6 HRD6 HRB5 HRA5 HG hHeld HDR HDD HR6 HR7 HX5 HX85 HX9 HD5 HB5 HLI HRO HV HSZ HCS HLL HRI HRN HX1 HX2 HX3 HX4 HX84 HX8 HXW HTV1 HTV2 HTV3 HID1 HID3 HTN1 HTN3 HLE1 HLE2 HLE3 HSZ1 HSZ2 HSZ3 HD1 HD2 HD3 HD4 HB1 HB2 HB3 HB4
     go_wp2_with fail
     subst hLB
     go_loopg [84] 5 (fun N i wr => ∃ j : Nat, j + N = 5 ∧ i = .int .i64 (j : Int) ∧ Hid (Below W7.heap.size W7 wr))
     case atStart => exact ⟨0, by omega, rfl, hid (Below.refl _ _)⟩
     case round =>
      obtain ⟨j, hj, rfl, HB⟩ := hrel
      have hwz := HB.out.size
      by_cases hp : 0 < gk
      ·obtain ⟨x, y, xa, ya, xk, yk, hpa⟩ := HPAIR.out j (by omega)
       have HPA := hid hpa
       have e0 := (HB.out.cell (p := ⟨pb, j * 6, none⟩) hpbl).trans hpa.c0
       have e1 := (HB.out.cell (p := ⟨pb, j * 6 + 1, none⟩) hpbl).trans hpa.c1
       have e2 := (HB.out.cell (p := ⟨pb, j * 6 + 2, none⟩) hpbl).trans hpa.c2
       have e3 := (HB.out.cell (p := ⟨pb, j * 6 + 3, none⟩) hpbl).trans hpa.c3
       have e4 := (HB.out.cell (p := ⟨pb, j * 6 + 4, none⟩) hpbl).trans hpa.c4
       have e5 := (HB.out.cell (p := ⟨pb, j * 6 + 5, none⟩) hpbl).trans hpa.c5
       have HQX := hid (fun W (hW : Below W7.heap.size W7 W) => hpa.rx.keep fun p (hp : p.block < W7.heap.size) => hW.cell (p := p) hp)
       have HQY := hid (fun W (hW : Below W7.heap.size W7 W) => hpa.ry.keep fun p (hp : p.block < W7.heap.size) => hW.cell (p := p) hp)
       have HN1 := hid (fun W (hW : Below W7.heap.size W7 W) => copies_Names x.id x.name _ x.cols W7.heap.size W (HQX.out W hW) hW.size hpa.lx)
       have HN2 := hid (fun W (hW : Below W7.heap.size W7 W) => ref36_Names x.id x.name _ x.cols W7.heap.size W (HQX.out W hW) hW.size hpa.lx)
       have HA1 := hid (fun W (hW : Below W7.heap.size W7 W) => (copies_Align x.id y.id x.name y.name _ _ x.cols y.cols W7.heap.size W (HQX.out W hW) (HQY.out W hW) hW.size hpa.lx hpa.ly).mono fun _ _ h => align_u h)
       have HA2 := hid (fun W (hW : Below W7.heap.size W7 W) => (ref36_Align x.id y.id x.name y.name _ _ x.cols y.cols W7.heap.size W (HQX.out W hW) (HQY.out W hW) hW.size hpa.lx hpa.ly).mono fun _ _ h => align_u h)
       have HC1 := hid (fun W (hW : Below W7.heap.size W7 W) => copies_CommonB x y _ _ W7.heap.size W hpa.sx hpa.sy (HQX.out W hW) (HQY.out W hW) hW.size (HTP.out W hW).1 (HTP.out W hW).2.1)
       have HC2 := hid (fun W (hW : Below W7.heap.size W7 W) => ref36_Common x y _ _ W7.heap.size W hpa.sx hpa.sy (HQX.out W hW) (HQY.out W hW) hW.size (HTP.out W hW).1)
       have HS1 := hid (fun W (hW : Below W7.heap.size W7 W) => copies_ScoreB x y _ _ W7.heap.size W hpa.sx hpa.sy (HQX.out W hW) (HQY.out W hW) hW.size (HTP.out W hW).1 (HTP.out W hW).2.1)
       have HS2 := hid (fun W (hW : Below W7.heap.size W7 W) => ref36_Score x y _ _ W7.heap.size W hpa.sx hpa.sy (HQX.out W hW) (HQY.out W hW) hW.size (HTP.out W hW).1)
       have hlx := hpa.lx
       have HSL : Hid ((sortL (namesL x.cols)).length = x.cols.length) := hid (by rw [sortL_len]; simp [namesL])
       have HNL : Hid ((namesL x.cols).length = x.cols.length) := hid (by simp [namesL])
       clear hpa HPA HQX HQY
       generalize x.id = i1 at *
       generalize y.id = i2 at *
       generalize x.name = n1 at *
       generalize y.name = n2 at *
       generalize comB x y = R at *
       generalize errB x y = E at *
       generalize scoN x y = sn at *
       generalize scoD x y = sd at *
       generalize x.cols = xs1 at *
       generalize y.cols = ys1 at *
       generalize xs1.length = m1 at *
       generalize ys1.length = m2 at *
       have HX := hid (BoxN.new wr #[.int .i64 i1, .string n1, .slice xa m1 xk, .int .i64 i2, .string n2, .slice ya m2 yk] 35)
       have HB0' := hid (HB.out.alloc hwz (.cells #[.int .i64 i1, .string n1, .slice xa m1 xk, .int .i64 i2, .string n2, .slice ya m2 yk] 35))
       have hzr : (wr.alloc (.cells #[.int .i64 i1, .string n1, .slice xa m1 xk, .int .i64 i2, .string n2, .slice ya m2 yk] 35)).heap.size = wr.heap.size + 1 := by simp
       have c0 := HX.out.cell 0 rfl
       have c1 := HX.out.cell 1 rfl
       have c2 := HX.out.cell 2 rfl
       go_wp2_with fail
       with_reducible refine (HN1.out _ HB0'.out).mono ?_
       generalize wr.alloc (.cells #[.int .i64 i1, .string n1, .slice xa m1 xk, .int .i64 i2, .string n2, .slice ya m2 yk] 35) = V0 at *
       generalize wr.heap.size = bb at *
       clear c0 c1 c2 e0 e1 e2 e3 e4 e5
       rintro e V1 ⟨sa, sc, rfl, hown, hb⟩
       have HBV := hid (HB0'.out.trans (hb.mono HB0'.out.size))
       replace HX := hid (HX.out.below hb HX.out.lt)
       have hown' := hown
       rw [HNL.out, ← HSL.out] at hown'
       have HRX := hid (rdS_own (by simpa using hown'))
       rw [HNL.out]
       clear hb hown hown' HB0' 
       have c0 := HX.out.cell 0 rfl
       have c1 := HX.out.cell 1 rfl
       have c2 := HX.out.cell 2 rfl
       go_wp2_with fail
       with_reducible refine (HN2.out _ HBV.out).mono ?_
       clear c0 c1 c2
       rintro e W9 ⟨ta, tc, rfl, hrd, hb⟩
       replace HBV := hid (HBV.out.trans (hb.mono HBV.out.size))
       replace HX := hid (HX.out.below hb HX.out.lt)
       replace HRX := hid (rdS_later HRX.out hb)
       have HRY := hid hrd
       rw [HNL.out] at HRY ⊢
       clear hb hrd
       have c0 := HX.out.cell 0 rfl
       have c1 := HX.out.cell 1 rfl
       have c2 := HX.out.cell 2 rfl
       have d0 := HX.out.cell 3 rfl
       have d1 := HX.out.cell 4 rfl
       have d2 := HX.out.cell 5 rfl
       go_wp2_with fail
       with_reducible refine (HA1.out _ HBV.out).mono ?_
       clear c0 c1 c2 d0 d1 d2
       rintro e W9 ⟨hb, f1, ua, un, uc, rfl, hf1, hun, hin⟩
       replace HBV := hid (HBV.out.trans (hb.mono HBV.out.size))
       replace HX := hid (HX.out.below hb HX.out.lt)
       replace HRX := hid (rdS_later HRX.out hb)
       replace HRY := hid (rdS_later HRY.out hb)
       have HI1 := hid hin
       have HF1 := hid hf1
       have HU1 := hid hun
       clear hb hin hf1 hun
       have c0 := HX.out.cell 0 rfl
       have c1 := HX.out.cell 1 rfl
       have c2 := HX.out.cell 2 rfl
       have d0 := HX.out.cell 3 rfl
       have d1 := HX.out.cell 4 rfl
       have d2 := HX.out.cell 5 rfl
       go_wp2_with fail
       with_reducible refine (HA2.out _ HBV.out).mono ?_
       clear c0 c1 c2 d0 d1 d2
       rintro e W9 ⟨hb, f2, va, vn, vc, rfl, hf2, hvn, hin⟩
       replace HBV := hid (HBV.out.trans (hb.mono HBV.out.size))
       replace HX := hid (HX.out.below hb HX.out.lt)
       replace HRX := hid (rdS_later HRX.out hb)
       replace HRY := hid (rdS_later HRY.out hb)
       replace HI1 := hid (inK_later HI1.out hb)
       obtain rfl : f2 = f1 := Bool.eq_iff_iff.2 (hf2.trans HF1.out.symm)
       obtain rfl : vn = un := by rw [hvn, HU1.out]
       have HI2 := hid hin
       clear hb hin hf2 hvn HU1 HF1
       have c0 := HX.out.cell 0 rfl
       have c1 := HX.out.cell 1 rfl
       have c2 := HX.out.cell 2 rfl
       have d0 := HX.out.cell 3 rfl
       have d1 := HX.out.cell 4 rfl
       have d2 := HX.out.cell 5 rfl
       go_wp2_with fail
       with_reducible refine (HC1.out _ HBV.out).mono ?_
       clear c0 c1 c2 d0 d1 d2
       rintro e W9 ⟨rfl, hb⟩
       replace HBV := hid (HBV.out.trans (hb.mono HBV.out.size))
       replace HX := hid (HX.out.below hb HX.out.lt)
       replace HRX := hid (rdS_later HRX.out hb)
       replace HRY := hid (rdS_later HRY.out hb)
       replace HI1 := hid (inK_later HI1.out hb)
       replace HI2 := hid (inK_later HI2.out hb)
       clear hb
       have c0 := HX.out.cell 0 rfl
       have c1 := HX.out.cell 1 rfl
       have c2 := HX.out.cell 2 rfl
       have d0 := HX.out.cell 3 rfl
       have d1 := HX.out.cell 4 rfl
       have d2 := HX.out.cell 5 rfl
       go_wp2_with fail
       with_reducible refine (HC2.out _ HBV.out).mono ?_
       clear c0 c1 c2 d0 d1 d2
       rintro e W9 ⟨rfl, hb⟩
       replace HBV := hid (HBV.out.trans (hb.mono HBV.out.size))
       replace HX := hid (HX.out.below hb HX.out.lt)
       replace HRX := hid (rdS_later HRX.out hb)
       replace HRY := hid (rdS_later HRY.out hb)
       replace HI1 := hid (inK_later HI1.out hb)
       replace HI2 := hid (inK_later HI2.out hb)
       clear hb
       have c0 := HX.out.cell 0 rfl
       have c1 := HX.out.cell 1 rfl
       have c2 := HX.out.cell 2 rfl
       have d0 := HX.out.cell 3 rfl
       have d1 := HX.out.cell 4 rfl
       have d2 := HX.out.cell 5 rfl
       go_wp2_with fail
       with_reducible refine (HS1.out _ HBV.out).mono ?_
       clear c0 c1 c2 d0 d1 d2
       rintro e W9 ⟨fa, fc, ga, gc, rfl, hN, hb⟩
       replace HBV := hid (HBV.out.trans (hb.mono HBV.out.size))
       replace HX := hid (HX.out.below hb HX.out.lt)
       replace HRX := hid (rdS_later HRX.out hb)
       replace HRY := hid (rdS_later HRY.out hb)
       replace HI1 := hid (inK_later HI1.out hb)
       replace HI2 := hid (inK_later HI2.out hb)
       have HR1 := hid (hN.rd false)
       clear hb hN
       have hb := (Below.refl W9.heap.size W9).alloc (Nat.le_refl _) (.cells #[.bool false, .slice fa (Fr.dig sn).length fc, .bool false, .slice ga (Fr.dig sd).length gc] 49)
       have HY := hid (BoxN.new W9 #[.bool false, .slice fa (Fr.dig sn).length fc, .bool false, .slice ga (Fr.dig sd).length gc] 49)
       replace HX := hid (HX.out.below hb HX.out.lt)
       replace HBV := hid (HBV.out.trans (hb.mono HBV.out.size))
       replace HR1 := hid (HR1.out.kept hb)
       have hz9 : (W9.alloc (.cells #[.bool false, .slice fa (Fr.dig sn).length fc, .bool false, .slice ga (Fr.dig sd).length gc] 49)).heap.size = W9.heap.size + 1 := by simp
       replace HRX := hid (rdS_later HRX.out hb)
       replace HRY := hid (rdS_later HRY.out hb)
       replace HI1 := hid (inK_later HI1.out hb)
       replace HI2 := hid (inK_later HI2.out hb)
       clear hb
       have c0 := HX.out.cell 0 rfl
       have c1 := HX.out.cell 1 rfl
       have c2 := HX.out.cell 2 rfl
       have d0 := HX.out.cell 3 rfl
       have d1 := HX.out.cell 4 rfl
       have d2 := HX.out.cell 5 rfl
       go_wp2_with fail
       with_reducible refine (HS2.out _ HBV.out).mono ?_
       clear c0 c1 c2 d0 d1 d2
       generalize W9.alloc (.cells #[.bool false, .slice fa (Fr.dig sn).length fc, .bool false, .slice ga (Fr.dig sd).length gc] 49) = U0 at *
       generalize W9.heap.size = yb at *
       rintro e V9 ⟨ha, hc, ka, kc, rfl, hN, hb⟩
       replace HBV := hid (HBV.out.trans (hb.mono HBV.out.size))
       replace HRX := hid (rdS_later HRX.out hb)
       replace HRY := hid (rdS_later HRY.out hb)
       replace HI1 := hid (inK_later HI1.out hb)
       replace HI2 := hid (inK_later HI2.out hb)
       replace HR1 := hid (HR1.out.kept hb)
       replace HY := hid (HY.out.below hb HY.out.lt)
       have HR2 := hid (hN.rd false)
       clear hb hN HX
       have hb := (Below.refl V9.heap.size V9).alloc (Nat.le_refl _) (.cells #[.bool false, .slice ha (Fr.dig sn).length hc, .bool false, .slice ka (Fr.dig sd).length kc] 49)
       have HZ := hid (BoxN.new V9 #[.bool false, .slice ha (Fr.dig sn).length hc, .bool false, .slice ka (Fr.dig sd).length kc] 49)
       replace HBV := hid (HBV.out.trans (hb.mono HBV.out.size))
       replace HR2 := hid (HR2.out.kept hb)
       have hz10 : (V9.alloc (.cells #[.bool false, .slice ha (Fr.dig sn).length hc, .bool false, .slice ka (Fr.dig sd).length kc] 49)).heap.size = V9.heap.size + 1 := by simp
       replace HRX := hid (rdS_later HRX.out hb)
       replace HRY := hid (rdS_later HRY.out hb)
       replace HI1 := hid (inK_later HI1.out hb)
       replace HI2 := hid (inK_later HI2.out hb)
       replace HR1 := hid (HR1.out.kept hb)
       replace HY := hid (HY.out.below hb HY.out.lt)
       clear hb
       have hq1 : ((m1 : Int) != (m1 : Int)) = false := by simp
       have hq2 : ((R : Int) != (R : Int)) = false := by simp
       have hq3 : (E != E) = false := by simp
       generalize decide (namesL xs1).Nodup = nd at *
       have hq4 : (nd != nd) = false := by simp
       have hq5 : (f2 != f2) = false := by simp
       have HSI := hid (fun W (hW : Below W7.heap.size W7 W) (hv : InK 1 W (· < W.heap.size) (.slice ua vn uc) vn (fun j _ => .int .i64 (((alignL xs1 ys1).getD j 0 : Nat) : Int))) (hu : InK 1 W (· < W.heap.size) (.slice va vn vc) vn (fun j _ => .int .i64 (((alignL xs1 ys1).getD j 0 : Nat) : Int))) => ref27_SameInts (.slice ua vn uc) (.slice va vn vc) (alignL xs1 ys1) vn W.heap.size W hv hu)
       have y0 := HY.out.cell 0 rfl
       have y1 := HY.out.cell 1 rfl
       have y2 := HY.out.cell 2 rfl
       have y3 := HY.out.cell 3 rfl
       have z0 := HZ.out.cell 0 rfl
       have z1 := HZ.out.cell 1 rfl
       have z2 := HZ.out.cell 2 rfl
       have z3 := HZ.out.cell 3 rfl
       go_wp2_with fail
       with_reducible refine (HSI.out _ HBV.out HI1.out HI2.out).mono ?_
       rintro e _ ⟨rfl, rfl⟩
       clear HSI HI1 HI2
       go_wp2_with fail
       with_reducible refine (Fr.ref_Same _ _ sn sd _ HR1.out HR2.out).mono ?_
       clear y0 y1 y2 y3 z0 z1 z2 z3
       generalize V9.alloc (.cells #[.bool false, .slice ha (Fr.dig sn).length hc, .bool false, .slice ka (Fr.dig sd).length kc] 49) = U1 at *
       generalize V9.heap.size = zb at *
       rintro e U2 ⟨rfl, hb⟩
       replace HBV := hid (HBV.out.trans (hb.mono HBV.out.size))
       replace HRX := hid (rdS_later HRX.out hb)
       replace HRY := hid (rdS_later HRY.out hb)
       clear hb HR1 HR2 HY HZ
       have hx := HRX.out
       have hy := HRY.out
       unfold RdS at hx hy
       rw [HSL.out] at hx hy
       obtain ⟨sa', sc', e1, -, -, hrx⟩ := hx
       obtain ⟨ta', tc', e2, -, -, hry⟩ := hy
       obtain ⟨rfl, -, rfl⟩ := Value.slice.inj e1
       obtain ⟨rfl, -, rfl⟩ := Value.slice.inj e2
       have HRX2 := hid hrx
       have HRY2 := hid hry
       obtain ⟨ko, rfl⟩ : ∃ ko, ko = gk := ⟨gk, rfl⟩
       clear HRX HRY hrx hry e1 e2
       go_wp2_with fail
       clear hq1 hq2 hq3 hq4 hq5
       go_loopg [192] m1 (fun N i wr => ∃ z : Nat, z + N = m1 ∧ i = .int .i64 (z : Int) ∧ wr = U2)
       case atStart => exact ⟨0, by omega, rfl, rfl⟩
       case round =>
        obtain ⟨z, hz, rfl, rfl⟩ := hrel
        by_cases hp3 : 0 < gk
        ·obtain ⟨bx, ox, rfl, hbx, hcx⟩ := HRX2.out (by omega)
         obtain ⟨by', oy, rfl, hby, hcy⟩ := HRY2.out (by omega)
         have k0 := hcx z (by omega)
         have k1 := hcy z (by omega)
         unfold strF at k0 k1
         clear hcx hcy
         generalize (sortL (namesL xs1)).getD z ⟨#[]⟩ = s at *
         have hbe : (s.toList == s.toList) = true := by simp
         go_wp2
         go_roundg (gk - 1)
         case rel => exact ⟨z + 1, by omega, by go_num, rfl⟩
         case measure => omega
        ·obtain rfl : z = m1 := by omega
         go_wp2
         go_roundg (ko - 1)
         case rel => exact ⟨j + 1, by omega, by go_num, HBV⟩
         case measure => omega
      ·obtain rfl : j = 5 := by omega
       have HBE := hid (HTP.out _ HB.out).2.2
       go_wp2_with fail
       with_reducible refine (HAW.out _ HBE.out).mono ?_
       rintro e W9 ⟨rfl, hb⟩
       have HBF := hid (HBE.out.trans (hb.mono HBE.out.size))
       clear hb
       go_wp2
       go_ret
       exact ⟨rfl, HBF.out⟩
 ·rw [decide_eq_false hg] at HLI
  go_enter Tryz.func3, Tryz.ntmps3
  generalize hLA : Code.loop _ = LA
  generalize hLB : Code.loop _ = LB
  clear hLA hLB
  go_wp2_with fail
  with_reducible refine (HLI.out _).mono ?_
  generalize w.alloc (.cells #[.int .i64 rid, .string rnm, .slice ra L rc] 24) = W0 at *
  rintro e w0 ⟨rfl, rfl⟩
  go_wp2_with fail
  with_reducible refine (HAW.out _ HB0.out).mono ?_
  rintro e w1 ⟨rfl, hb1⟩
  have HB1 := hid (HB0.out.trans (hb1.mono HB0.out.size))
  clear hb1
  go_wp2
  go_ret
  exact ⟨rfl, HB1.out⟩
end Go.Proofs.YthblaeleogdfpaaGreatDoor
