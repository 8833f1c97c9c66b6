/- The walk of CopiesTop. PRINTED by wip/tools/gen_rwu.py. -/
import Derived.Deep.RegionHeld3
import Derived.Deep.RegionLawGrows
import Derived.Test.YthblaeleogdfpaaGreatDoorCTobn
import Derived.Test.YthblaeleogdfpaaGreatDoorCTobo
import Derived.Test.YthblaeleogdfpaaGreatDoorCTobp
import Derived.Test.YthblaeleogdfpaaGreatDoorCTobq
set_option linter.unusedVariables false
set_option linter.unusedSimpArgs false
namespace Go.Proofs.YthblaeleogdfpaaGreatDoor
open Go.RowKit
theorem tkbr {P : Program} {ops : Array Oper} {Q : Exit → Act → World → Prop} {md : Region.Mode} {S : World → Prop} {i : Nat} {oi : Oper} {v : Value} {fuel : Nat} {listed : Array Bool} {a : Act} {w : World} (a1 : ops[i]? = some oi := by simp only [List.getElem?_toArray, List.getElem?_cons_zero, List.getElem?_cons_succ]; rfl)
    (a2 : Region.noSelect ops = true := by kernel_rfl) (a3 : Region.free md ops listed i = true := by kernel_rfl) (a4 : (Region.ready md ops listed).contains i = true := by kernel_rfl) (a5 : ∀ (c : List PanicEntry) (a : Act) (w : World), Q (Exit.panic c) (a.put oi.dst v) w → Q (Exit.panic c) a w := by intro _ _ _ h; exact h)
    (y : YieldsIf P ops S oi v a) (a6 : S w := by assumption) (z : wpAnyH P md ops Q S fuel (listed.setIfInBounds i true) (a.put oi.dst v) w) : wpAnyH P md ops Q S (fuel + 1) listed a w := wpAnyH_take a1 a2 a3 a4 a5 y a6 z
theorem csbr {P : Program} {ops : Array Oper} {Q : Exit → Act → World → Prop} {md : Region.Mode} {S : World → Prop} {fuel : Nat} {listed : Array Bool} {a : Act} {w : World} {i : Nat} {o : Oper} {rs : List Nat} (a1 : ops[i]? = some o := by simp only [List.getElem?_toArray, List.getElem?_cons_zero, List.getElem?_cons_succ]; rfl)
    (x : ∀ (K' : Act → World → Prop), Shut (∀ (a : Act) (w : World), S w → (S w → wpAnyH P md ops Q S fuel (listed.setIfInBounds i true) a w) → K' a w) → if Region.wanted o (yielded ops a.tmps) = true then Oper.wp P o a w K' Q else K' (a.put o.dst undef) w)
    (y : AllReadyH P md ops Q S fuel listed a w rs) : AllReadyH P md ops Q S fuel listed a w (i :: rs) := AllReadyH.cons a1 x y
theorem taF_flat {w : World} {b o n : Nat} {f : Nat → Nat → Value} (hc : ∀ i, i < n → ∀ j, j < 3 → w.cell? ⟨b, o + i * 3 + j, none⟩ = some (f i j)) : ∀ (j : Nat) u, (flatK 3 n f)[j]? = some u → w.cell? ⟨b, o + j, none⟩ = some u := by
 intro j u hu
 induction n with
 | zero => simp [flatK] at hu
 | succ n ih =>
  rw [flatK_succ] at hu
  have hl : (flatK 3 n f).length = n * 3 := flatK_len _ _ _
  rcases Nat.lt_or_ge j (n * 3) with h | h
  ·rw [List.getElem?_append_left (by omega)] at hu
   exact ih (fun i hi => hc i (by omega)) hu
  ·rw [List.getElem?_append_right (by omega), hl] at hu
   obtain ⟨m, rfl⟩ : ∃ m, j = n * 3 + m := ⟨j - n * 3, by omega⟩
   rw [Nat.add_sub_cancel_left] at hu
   have hm : m < 3 := by have := (List.getElem?_eq_some_iff.1 hu).1; simpa using this
   have h3 := hc n (by omega) m hm
   rw [← Nat.add_assoc, h3]
   rcases (by omega : m = 0 ∨ m = 1 ∨ m = 2) with rfl | rfl | rfl <;> simpa [List.range_succ] using hu
theorem rdTa_snoc {w : World} {base : Nat} {e : TypeId} {v : Value} {ts : List Ta} {tv : Nat → Value} {x : Ta} {u : Value} {n : Nat} (hn : ts.length = n) (h : w.ownsRow base e 3 v (n + 1) (flatK 3 n (taF ts tv) ++ [.int .i64 x.id, .string x.name, u]))
  (hk : ∀ i, i < n → RdCo w (· < w.heap.size) (tv i) (ts.getD i Ta.z).cols) (hu : RdCo w (· < w.heap.size) u x.cols) : RdTa w (· < w.heap.size) v (ts ++ [x]) := by
 subst hn
 have e1 : flatK 3 ts.length (taF ts tv) ++ [.int .i64 x.id, .string x.name, u] = flatK 3 (ts.length + 1) (taF (ts ++ [x]) (fun i => if i < ts.length then tv i else u)) := by
  refine flat_push (fun i hi j hj => ?_) ?_
  ·unfold taF
   dsimp only
   rw [if_pos hi, show (ts ++ [x]).getD i Ta.z = ts.getD i Ta.z by simp [List.getD, List.getElem?_append_left hi]]
  ·simp [taF, three, List.range_succ, List.getD]
 rw [e1] at h
 refine ⟨fun i => if i < ts.length then tv i else u, ?_, fun i hi => ?_⟩
 ·rw [List.length_append, List.length_singleton]
  exact (inK_of_owns h).more fun b hb => (h.lt b hb).2
 ·rw [List.length_append, List.length_singleton] at hi
  dsimp only
  by_cases hi2 : i < ts.length
  ·rw [if_pos hi2, show (ts ++ [x]).getD i Ta.z = ts.getD i Ta.z by simp [List.getD, List.getElem?_append_left hi2]]
   exact hk i hi2
  ·obtain rfl : i = ts.length := by omega
   rw [if_neg hi2, show (ts ++ [x]).getD ts.length Ta.z = x by simp [List.getD]]
   exact hu
theorem szL_of {ts : List Ta} (h : ∀ t ∈ ts, TabV t) : SzL ts := fun t ht => szT_of (h t ht)
theorem topX_same {ts : List Ta} {qt : Ta} {k : Int} {I1 I2 : List Int} (h1 : topE ts qt k = 0 → ∃ J : List Int, J.Perm (idsP ts qt.cols) ∧ J.Pairwise (befS ts qt.cols) ∧ I1 = J.take k.toNat) (n1 : topE ts qt k ≠ 0 → I1 = [])
  (h2 : topE ts qt k = 0 → ∃ J : List Int, J.Perm (idsP ts qt.cols) ∧ J.Pairwise (befS ts qt.cols) ∧ I2 = J.take k.toNat) (n2 : topE ts qt k ≠ 0 → I2 = []) : I2 = I1 := by
 by_cases h : topE ts qt k = 0
 ·obtain ⟨J1, a1, b1, rfl⟩ := h1 h
  obtain ⟨J2, a2, b2, rfl⟩ := h2 h
  rw [befS_unique (a1.trans a2.symm) b1 b2]
 ·rw [n1 h, n2 h]
set_option maxRecDepth 100000 in
set_option maxHeartbeats 16000000 in
theorem law36_top (rt : List Ta) (rv : Value) (a : Option Addr) (n c : Nat) (k : Int) (w : World) (hz : SzL rt) (hv : RdTa w (· < w.heap.size) rv rt) (hA : RdI w w.heap.size a n c) (hT : Tabs w) (hP : Pow w) (ho : Fr.OneAt w) :
  Calls Tryz.prog 6 #[.slice a n c, rv, .int .i64 k] w (Ret w (.bool true)) := by
 obtain ⟨i0, hii, hiz0, hiz1, hiz2⟩ := info_parts info_tab
 have HAW := hid (fun W (hW : Below w.heap.size w W) => law36_awake W (hT.below hW) (hP.below hW (Nat.le_refl _)))
 have hnm : n ≤ maxLen := Nat.le_trans hA.1 hA.2.1
 have HLI := hid (kit_Light a n c w hnm)
 have HRO := hid (fun W (hW : Below w.heap.size w W) (hg : n ≤ 500) => kit_Roll a n c W (rdI_later hA hW) hg (hP.below hW (Nat.le_refl _)))
 have HV := hid hv
 have HSZ := hid hz
 have HTT := hid hT
 have HPP := hid hP
 have HOO := hid ho
 obtain ⟨rw', ⟨ra, rc, rfl, hrc, hrm, hrr⟩, hrk⟩ := hv
 have HRR := hid hrr
 have HRK := hid hrk
 unfold maxLen at hrm
 clear hrr hrk hz hT hP ho hA
 generalize hR : rt.length = R at *
 have HRL := hid hR
 clear hR
 by_cases hg : n ≤ 500
 ·rw [decide_eq_true hg] at HLI
  by_cases hR3 : 3 < R
  ·have hd : decide ((3 : Int) < (R : Int)) = true := decide_eq_true (by omega)
   go_enter Tryz.func6, Tryz.ntmps6
   generalize hLA : Code.loop _ = LA
   generalize hLB : Code.loop _ = LB
   clear hLA hLB
   go_wp2_with fail
   with_reducible refine HLI.out.mono ?_
   rintro e w0 ⟨rfl, rfl⟩
   go_wp2_with fail
   with_reducible refine (HAW.out _ (Below.refl _ _)).mono ?_
   rintro e w1 ⟨rfl, hb1⟩
   have HB1 := hid hb1
   clear hb1
   go_wp2
   go_ret
   exact ⟨rfl, HB1.out⟩
  ·have hd : decide ((3 : Int) < (R : Int)) = false := decide_eq_false (by omega)
   go_enter Tryz.func6, Tryz.ntmps6
   generalize hLA : Code.loop _ = LA
   generalize hLB : Code.loop _ = LB
   go_wp2_with fail
   with_reducible refine HLI.out.mono ?_
   rintro e w0 ⟨rfl, rfl⟩
   go_wp2_with fail
   clear hd
   subst hLA
   go_loopg [33] R (fun N i wr => ∃ q : Nat, q + N = R ∧ i = .int .i64 (q : Int) ∧ Hid (Below w.heap.size w wr))
   case atStart => exact ⟨0, by omega, rfl, hid (Below.refl _ _)⟩
   case round =>
    obtain ⟨q, hq, rfl, HB⟩ := hrel
    have hwz := HB.out.size
    by_cases hp : 0 < gk
    ·obtain ⟨b, o, rfl, hb, hcell⟩ := HRR.out (by omega)
     have hb' : b < w.heap.size := hb
     obtain ⟨cv, ⟨ka, kc, hke, hk1, hk2, hkr⟩, hkk⟩ := HRK.out q (by omega)
     have k0 : wr.cell? ⟨b, o + q * 3, none⟩ = some (.int .i64 (rt.getD q Ta.z).id) := (HB.out.cell (p := ⟨b, o + q * 3, none⟩) hb').trans (hcell q (by omega) 0 (by omega))
     have k1 : wr.cell? ⟨b, o + q * 3 + 1, none⟩ = some (.string (rt.getD q Ta.z).name) := (HB.out.cell (p := ⟨b, o + q * 3 + 1, none⟩) hb').trans (hcell q (by omega) 1 (by omega))
     have k2 : wr.cell? ⟨b, o + q * 3 + 2, none⟩ = some (rw' q) := (HB.out.cell (p := ⟨b, o + q * 3 + 2, none⟩) hb').trans (hcell q (by omega) 2 (by omega))
     rw [hke] at k2
     have HKR := hid hkr
     have HKK : Hid (∀ j, j < (rt.getD q Ta.z).cols.length → ∃ a m c, cv j = .slice a m c ∧ m ≤ c ∧ c ≤ maxLen) := hid (fun j hj => by
      obtain ⟨a, c, e, h1, h2, -⟩ := hkk j hj
      exact ⟨a, _, c, e, h1, h2⟩)
     unfold maxLen at hk2
     clear hcell hke hkr hkk
     generalize (rt.getD q Ta.z).id = ti at *
     generalize (rt.getD q Ta.z).name = tn at *
     generalize hcl : (rt.getD q Ta.z).cols.length = K at *
     clear hcl
     generalize (rt.getD q Ta.z).cols = xs at *
     have HBA := hid (HB.out.alloc hwz (.cells #[.int .i64 ti, .string tn, .slice ka K kc] 24))
     have hxc := BoxN.new wr #[.int .i64 ti, .string tn, .slice ka K kc] 24
     have e2 := hxc.cell 2 rfl
     clear hxc
     by_cases h4 : 4 < K
     ·have hd1 : decide ((4 : Int) < (K : Int)) = true := decide_eq_true (by omega)
      go_wp2_with fail
      with_reducible refine (HAW.out _ HBA.out).mono ?_
      rintro e w1 ⟨rfl, hb1⟩
      have HB1 := hid (HBA.out.trans (hb1.mono HBA.out.size))
      clear hb1
      go_wp2
      go_ret
      exact ⟨rfl, HB1.out⟩
     ·have hd1 : decide ((4 : Int) < (K : Int)) = false := decide_eq_false (by omega)
      obtain ⟨ko, rfl⟩ : ∃ ko, ko = gk := ⟨gk, rfl⟩
      go_wp2_with fail
      generalize wr.alloc (.cells #[.int .i64 ti, .string tn, .slice ka K kc] 24) = W1 at *
      generalize wr.heap.size = bb at *
      clear k0 k1 k2 e2 hd1
      go_loopg [45] K (fun N i wr => ∃ j : Nat, j + N = K ∧ i = .int .i64 (j : Int) ∧ Hid (Below w.heap.size w wr))
      case atStart => exact ⟨0, by omega, rfl, HBA⟩
      case round =>
       obtain ⟨j, hj, rfl, HBC⟩ := hrel
       have hwc := HBC.out.size
       by_cases hp2 : 0 < gk
       ·obtain ⟨b2, o2, rfl, hb2, hcell2⟩ := HKR.out (by omega)
        have hb2' : b2 < w.heap.size := hb2
        obtain ⟨ca, cn, cc, hce, hc1, hc2⟩ := HKK.out j (by omega)
        unfold maxLen at hc2
        have l0 : wr.cell? ⟨b2, o2 + j * 2, none⟩ = some (.string (xs.getD j Co.z).name) := (HBC.out.cell (p := ⟨b2, o2 + j * 2, none⟩) hb2').trans (hcell2 j (by omega) 0 (by omega))
        have l1 : wr.cell? ⟨b2, o2 + j * 2 + 1, none⟩ = some (cv j) := (HBC.out.cell (p := ⟨b2, o2 + j * 2 + 1, none⟩) hb2').trans (hcell2 j (by omega) 1 (by omega))
        rw [hce] at l1
        generalize (xs.getD j Co.z).name = s at *
        have HBD := hid (HBC.out.alloc hwc (.cells #[.string s, .slice ca cn cc] 30))
        have hxd := BoxN.new wr #[.string s, .slice ca cn cc] 30
        have f1 := hxd.cell 1 rfl
        clear hxd hcell2 hce
        by_cases h10 : 10 < cn
        ·have hd1 : decide ((10 : Int) < (cn : Int)) = true := decide_eq_true (by omega)
         go_wp2_with fail
         with_reducible refine (HAW.out _ HBD.out).mono ?_
         rintro e w1 ⟨rfl, hb1⟩
         have HB1 := hid (HBD.out.trans (hb1.mono HBD.out.size))
         clear hb1
         go_wp2
         go_ret
         exact ⟨rfl, HB1.out⟩
        ·have hd1 : decide ((10 : Int) < (cn : Int)) = false := decide_eq_false (by omega)
         go_wp2
         go_roundg (gk - 1)
         case rel => exact ⟨j + 1, by omega, by go_num, HBD⟩
         case measure => omega
       ·obtain rfl : j = K := by omega
        go_wp2
        go_roundg (ko - 1)
        case rel => exact ⟨q + 1, by omega, by go_num, HBC⟩
        case measure => omega
    ·obtain rfl : q = R := by omega
     clear HRR HRK
     go_wp2_with fail
     with_reducible refine (HRO.out _ HB.out hg).mono ?_
     rintro e w1 ⟨rfl, hd1, hb1⟩
     have HB1 := hid (HB.out.trans (hb1.mono hwz))
     clear HB
     generalize wr.heap.size = g0 at *
     have hgz := hd1.lt
     have HKT : Hid (Calls Tryz.prog 32 #[.pointer (some ⟨g0, 0, none⟩), .int .i64 5] w1 (KLis w1 g0 5)) := hid (kit_Tables g0 5 w1 hd1 ⟨w, HTT.out, hwz, HB1.out⟩ (by omega))
     clear hd1 hb1
     go_wp2_with fail
     with_reducible refine HKT.out.mono ?_
     rintro e w2 ⟨ts, v, rfl, hrd, hpos, hlen, hlv, hd2, hr2⟩
     have HLV := hid hlv
     have HD2 := hid hd2
     have HRD := hid hrd
     have hz2 := hr2.size
     have HB2 := hid (HB1.out.trans (hr2.below (B' := w.heap.size) hwz (by omega)))
     obtain ⟨tv, ⟨ta, tc, rfl, hc, hm, hr⟩, hkid⟩ := hrd
     have HR := hid hr
     have HKID := hid hkid
     clear hlv hd2 hr2 hr hkid HKT
     unfold maxLen at hm
     generalize hxl : ts.length = L at *
     have HXL := hid hxl
     clear hxl
     have hL5 : L ≤ 5 := by omega
     go_wp2_with fail
     with_reducible refine (kit_Next g0 _ _ HD2.out (by omega) (by omega)).mono ?_
     rintro e w3 ⟨j, rfl, hj, hd3, hr3, -⟩
     have hjL : j < L := by omega
     have hjLi : (j : Int) < (L : Int) := by omega
     have hz3 := hr3.size
     have HB3 := hid (HB2.out.trans (hr3.below (B' := w.heap.size) (by omega) (by omega)))
     have HRD3 : Hid (RdTa w3 (fun b => w1.heap.size ≤ b ∧ b < w2.heap.size) (.slice ta L tc) ts) := hid (HRD.out.keep fun p hp => hr3.cell (p := p) (by have := hp.2; omega) (by have := hp.1; omega))
     obtain ⟨b, o, rfl, hb, hcell⟩ := HR.out (by omega)
     have k0 : w3.cell? ⟨b, o + j * 3, none⟩ = some (.int .i64 (ts.getD j Ta.z).id) := (hr3.cell (p := ⟨b, o + j * 3, none⟩) hb.2 (by show b ≠ _; have := hb.1; omega)).trans (hcell j hjL 0 (by omega))
     have k1 : w3.cell? ⟨b, o + j * 3 + 1, none⟩ = some (.string (ts.getD j Ta.z).name) := (hr3.cell (p := ⟨b, o + j * 3 + 1, none⟩) hb.2 (by show b ≠ _; have := hb.1; omega)).trans (hcell j hjL 1 (by omega))
     have k2 : w3.cell? ⟨b, o + j * 3 + 2, none⟩ = some (tv j) := (hr3.cell (p := ⟨b, o + j * 3 + 2, none⟩) hb.2 (by show b ≠ _; have := hb.1; omega)).trans (hcell j hjL 2 (by omega))
     have HKD := hid (kit_Derived g0 (ts.getD j Ta.z) (tv j) 0 w3 hd3 ⟨w, HTT.out, hwz, HB3.out⟩ (HLV.out.2.1 _ (getD_mem (by rw [HXL.out]; exact hjL) Ta.z)) (((HKID.out j hjL).keep fun p hp => hr3.cell (p := p) hp.2 (by have := hp.1; omega)).more fun b hb => ⟨by have := hb.2; omega, by have := hb.1; omega⟩))
     have HC3 : Hid (∀ i, i < L → ∀ j, j < 3 → w3.cell? ⟨b, o + i * 3 + j, none⟩ = some (taF ts tv i j)) := hid (fun i hi j hj => (hr3.cell (p := ⟨b, o + i * 3 + j, none⟩) hb.2 (by show b ≠ _; have := hb.1; omega)).trans (hcell i hi j hj))
     have HKD3 := hid (fun i (hi : i < L) => (HKID.out i hi).keep (w' := w3) fun p hp => hr3.cell (p := p) hp.2 (by have := hp.1; omega))
     clear hcell hd3 hr3 HKID HR HD2 HRD
     generalize (ts.getD j Ta.z).id = tji at *
     generalize (ts.getD j Ta.z).name = tjn at *
     generalize tv j = tjv at *
     go_wp2_with fail
     with_reducible refine HKD.out.mono ?_
     clear k0 k1 k2 HKD
     rintro e w4 ⟨yn, yc, yu, rfl, htw, hco, -, hr4⟩
     have HTV := hid (htw.tab (id := 0) (by omega) (by omega))
     have hz4 := hr4.size
     have HB4 := hid (HB3.out.trans (hr4.below (B' := w.heap.size) (by omega) (by omega)))
     have HRD4 : Hid (RdTa w4 (fun b => w1.heap.size ≤ b ∧ b < w2.heap.size) (.slice (some ⟨b, o, none⟩) L tc) ts) := hid (HRD3.out.keep fun p hp => hr4.cell (p := p) (by have := hp.2; omega) (by have := hp.1; omega))
     have hbl : w1.heap.size ≤ b ∧ b < w2.heap.size := hb
     have HC4 : Hid (∀ i, i < L → ∀ j, j < 3 → w4.cell? ⟨b, o + i * 3 + j, none⟩ = some (taF ts tv i j)) := hid (fun i hi j hj => (hr4.cell (p := ⟨b, o + i * 3 + j, none⟩) (by show b < _; omega) (by show b ≠ _; omega)).trans (HC3.out i hi j hj))
     have HKD4 := hid (fun i (hi : i < L) => (HKD3.out i hi).keep (w' := w4) fun p hp => hr4.cell (p := p) (by have := hp.2; omega) (by have := hp.1; omega))
     have HQ4 := hid hco.read
     obtain ⟨L5, hL5'⟩ := hco.owns
     obtain ⟨lq, hlq⟩ : ∃ lq, lq = yc.length := ⟨_, rfl⟩
     have HLQ := hid hlq
     have hyl := htw.2.1
     rw [← hlq] at hL5'
     obtain ⟨qa, qk, rfl⟩ := own_slice hL5'
     clear htw hco hr4 hL5' hlq HRD3 HC3 HKD3
     have HQB := hid (BoxN.new w4 #[.int .i64 0, .string yn, .slice qa lq qk] 24)
     have HB5 := hid (HB4.out.alloc HB4.out.size (.cells #[.int .i64 0, .string yn, .slice qa lq qk] 24))
     have hz5 : (w4.alloc (.cells #[.int .i64 0, .string yn, .slice qa lq qk] 24)).heap.size = w4.heap.size + 1 := by simp
     have HC5 : Hid (∀ i, i < L → ∀ j, j < 3 → (w4.alloc (.cells #[.int .i64 0, .string yn, .slice qa lq qk] 24)).cell? ⟨b, o + i * 3 + j, none⟩ = some (taF ts tv i j)) := hid (fun i hi j hj => (World.cell?_alloc_lt _ _ ⟨b, o + i * 3 + j, none⟩ (by show b < _; omega)).trans (HC4.out i hi j hj))
     have HKD5 := hid (fun i (hi : i < L) => (HKD4.out i hi).keep (w' := w4.alloc (.cells #[.int .i64 0, .string yn, .slice qa lq qk] 24)) fun p hp => World.cell?_alloc_lt _ _ _ (by have := hp.2; omega))
     have HTS5 := hid (HRD4.out.keep (w' := w4.alloc (.cells #[.int .i64 0, .string yn, .slice qa lq qk] 24)) fun p hp => World.cell?_alloc_lt _ _ _ (by have := hp.2; omega))
     have HQR5 := hid (HQ4.out.keep (w' := w4.alloc (.cells #[.int .i64 0, .string yn, .slice qa lq qk] 24)) fun p hp => World.cell?_alloc_lt _ _ _ hp.2)
     clear HRD4 HQ4 HC4 HKD4
     go_upto_region 18 with fail
     generalize w4.alloc (.cells #[.int .i64 0, .string yn, .slice qa lq qk] 24) = W5 at *
     generalize w4.heap.size = qb at *
     have HBD := hid (HB5.out.drew)
     have hzd : W5.drew.heap.size = W5.heap.size := rfl
     have HCD : Hid (∀ W, Below W5.heap.size W5.drew W → ∀ i, i < L → ∀ j, j < 3 → W.cell? ⟨b, o + i * 3 + j, none⟩ = some (taF ts tv i j)) := hid (fun W hW i hi j hj => (hW.cell (p := ⟨b, o + i * 3 + j, none⟩) (by show b < _; omega)).trans (HC5.out i hi j hj))
     have HKDD := hid (fun W (hW : Below W5.heap.size W5.drew W) i (hi : i < L) => (show RdCo W5.drew _ (tv i) (ts.getD i Ta.z).cols from HKD5.out i hi).keep (w' := W) fun p hp => hW.cell (p := p) (by have := hp.2; omega))
     have HTSD := hid (fun W (hW : Below W5.heap.size W5.drew W) => (show RdTa W5.drew _ (.slice (some ⟨b, o, none⟩) L tc) ts from HTS5.out).keep (w' := W) fun p hp => hW.cell (p := p) (by have := hp.2; omega))
     have HQRD := hid (fun W (hW : Below W5.heap.size W5.drew W) => (show RdCo W5.drew _ (.slice qa lq qk) yc from HQR5.out).keep (w' := W) fun p hp => hW.cell (p := p) (by have := hp.2; omega))
     have HQBD := hid (fun W (hW : Below W5.heap.size W5.drew W) => (show BoxN W5.drew qb 24 #[.int .i64 0, .string yn, .slice qa lq qk] from HQB.out).below hW (by omega))
     have HBLW := hid (fun W (hW : Below W5.heap.size W5.drew W) => HBD.out.trans (hW.mono (by omega)))
     obtain ⟨i0d, hi0d⟩ : ∃ x, x = (ts.getD 0 Ta.z).id := ⟨_, rfl⟩
     obtain ⟨n0d, hn0d⟩ : ∃ x, x = (ts.getD 0 Ta.z).name := ⟨_, rfl⟩
     obtain ⟨t0d, ht0d⟩ : ∃ x, x = tv 0 := ⟨_, rfl⟩
     have HG := hid (fun W (hW : Below W5.heap.size W5.drew W) => (⟨by have := HCD.out W hW 0 (by omega) 0 (by omega); rw [hi0d]; simpa [taF, three] using this, by have := HCD.out W hW 0 (by omega) 1 (by omega); rw [hn0d]; simpa [taF, three] using this, by have := HCD.out W hW 0 (by omega) 2 (by omega); rw [ht0d]; simpa [taF, three] using this⟩ : W.cell? ⟨b, o, none⟩ = some (.int .i64 i0d) ∧ W.cell? ⟨b, o + 1, none⟩ = some (.string n0d) ∧ W.cell? ⟨b, o + 2, none⟩ = some t0d))
     have HI0 := hid hi0d
     have HN0 := hid hn0d
     have HT0 := hid ht0d
     clear hi0d hn0d ht0d HC5 HKD5 HTS5 HQR5 HQB
     have hcL : (L : Int) ≤ (tc : Int) := by omega
     have hL0 : (0 : Int) < (L : Int) := by omega
     refine wp_region_held_drew (S := fun W => W.cell? ⟨b, o, none⟩ = some (.int .i64 i0d) ∧ W.cell? ⟨b, o + 1, none⟩ = some (.string n0d) ∧ W.cell? ⟨b, o + 2, none⟩ = some t0d) (by kernel_rfl) (HG.out _ (Below.refl _ _)) (fun hHeld => ?_)
     have HDR := hid (Below.refl W5.heap.size W5.drew)
     generalize W5.drew = Wd at *
     refine tkbr (i := 0) (v := ?_) (y := (Or.inl ⟨by rfl, ?_⟩)) (z := ?_)
     rotate_left
     ·(intro w' hSw; (try dsimp only at hSw); go_simp) <;> with_reducible rfl
     try simp only [Act.put, List.setIfInBounds_toArray, List.set]
     refine tkbr (i := 1) (v := ?_) (y := (Or.inl ⟨by rfl, ?_⟩)) (z := ?_)
     rotate_left
     ·(intro w' hSw; (try dsimp only at hSw); go_simp) <;> with_reducible rfl
     try simp only [Act.put, List.setIfInBounds_toArray, List.set]
     refine tkbr (i := 2) (v := ?_) (y := (Or.inl ⟨by rfl, ?_⟩)) (z := ?_)
     rotate_left
     ·(intro w' hSw; (try dsimp only at hSw); go_simp) <;> with_reducible rfl
     try simp only [Act.put, List.setIfInBounds_toArray, List.set]
     refine tkbr (i := 3) (v := ?_) (y := (Or.inl ⟨by rfl, ?_⟩)) (z := ?_)
     rotate_left
     ·(intro w' hSw; (try dsimp only at hSw); go_simp) <;> with_reducible rfl
     try simp only [Act.put, List.setIfInBounds_toArray, List.set]
     refine tkbr (i := 4) (v := ?_) (y := (Or.inl ⟨by rfl, ?_⟩)) (z := ?_)
     rotate_left
     ·(intro w' hSw; (try dsimp only at hSw); go_simp) <;> with_reducible rfl
     try simp only [Act.put, List.setIfInBounds_toArray, List.set]
     refine tkbr (i := 5) (v := ?_) (y := (Or.inl ⟨by rfl, ?_⟩)) (z := ?_)
     rotate_left
     ·(intro w' hSw; (try dsimp only at hSw); go_simp) <;> with_reducible rfl
     try simp only [Act.put, List.setIfInBounds_toArray, List.set]
     refine tkbr (i := 6) (v := ?_) (y := (Or.inl ⟨by rfl, ?_⟩)) (z := ?_)
     rotate_left
     ·(intro w' hSw; (try dsimp only at hSw); go_simp) <;> with_reducible rfl
     try simp only [Act.put, List.setIfInBounds_toArray, List.set]
     refine tkbr (i := 7) (v := ?_) (y := (Or.inl ⟨by rfl, ?_⟩)) (z := ?_)
     rotate_left
     ·(intro w' hSw; (try dsimp only at hSw); go_simp) <;> with_reducible rfl
     try simp only [Act.put, List.setIfInBounds_toArray, List.set]
     refine tkbr (i := 8) (v := ?_) (y := (Or.inl ⟨by rfl, ?_⟩)) (z := ?_)
     rotate_left
     ·(intro w' hSw; (try dsimp only at hSw); go_simp) <;> with_reducible rfl
     try simp only [Act.put, List.setIfInBounds_toArray, List.set]
     refine tkbr (i := 9) (v := ?_) (y := (Or.inl ⟨by rfl, ?_⟩)) (z := ?_)
     rotate_left
     ·(intro w' hSw; (try dsimp only at hSw); go_simp) <;> with_reducible rfl
     try simp only [Act.put, List.setIfInBounds_toArray, List.set]
     refine tkbr (i := 10) (v := ?_) (y := (Or.inl ⟨by rfl, ?_⟩)) (z := ?_)
     rotate_left
     ·(intro w' hSw; (try dsimp only at hSw); go_simp) <;> with_reducible rfl
     try simp only [Act.put, List.setIfInBounds_toArray, List.set]
     refine tkbr (i := 15) (v := ?_) (y := (Or.inl ⟨by rfl, ?_⟩)) (z := ?_)
     rotate_left
     ·(intro w' hSw; (try dsimp only at hSw); go_simp) <;> with_reducible rfl
     try simp only [Act.put, List.setIfInBounds_toArray, List.set]
     refine wpAnyH_ready (rs := [11]) (by kernel_rfl) (by simp) ?_
     refine csbr (x := fun K hK => ?_) (y := AllReadyH.nil)
     go_simp
     have HD1 := hid (HDR.out.alloc (by omega) (.cells #[.int .i64 i0d, .string n0d, t0d] 24))
     have HNN := hid (BoxN.new Wd #[.int .i64 i0d, .string n0d, t0d] 24)
     rw [show Wd.heap.size = qb + 1 by omega] at HNN
     refine hK.out _ _ (HG.out _ HD1.out) (fun hHeld => ?_)
     clear hK K
     try simp only [Act.put, List.setIfInBounds_toArray, List.set]
     generalize Wd.alloc (.cells #[.int .i64 i0d, .string n0d, t0d] 24) = We at *
     refine wpAnyH_ready (rs := [12]) (by kernel_rfl) (by simp) ?_
     refine csbr (x := fun K hK => ?_) (y := AllReadyH.nil)
     refine step_append_grows rfl (.tmp 76) (.tmp 80) 68 rfl 24 i0 (.agg #[.int .i64 0, .string ⟨#[]⟩, .slice none 0 0]) 3 48 Tryz.underlying68 hii hiz0 hiz1 hiz2 rfl (by decide) (some ⟨b, o, none⟩) L L (flatK 3 L (taF ts tv)) rfl (fun h => by cases h) (flatK_len _ _ _) (fun b' hb' j u hu => by
       obtain rfl := Option.some.inj hb'
       rw [Addr.add_lit]
       exact taF_flat (HCD.out We HD1.out) j u hu) ⟨_, 0, none⟩ 1 1 [.int .i64 i0d, .string n0d, t0d] rfl rfl (World.news_of_block HNN.out) (by
       intro u hu
       simp at hu
       rcases hu with rfl | rfl | rfl
       ·rfl
       ·rfl
       ·rw [HT0.out]
        obtain ⟨cv0, ⟨_, _, e, -⟩, -⟩ := HKDD.out We HD1.out 0 (by omega)
        rw [e]
        rfl) (by omega) (by unfold maxLen; omega) (by omega) ?_
     intro v9 w9 hown9 hg9
     obtain ⟨xa, xc, rfl⟩ := own_slice hown9
     have hz9 := hg9.size
     have hwe := HD1.out.size
     have HD9 : Hid (Below W5.heap.size Wd w9) := hid (HD1.out.grown hg9 (by omega) (fun b hb => by cases hb))
     have HOWN9 := hid hown9
     refine hK.out _ _ (HG.out _ HD9.out) (fun hHeld => ?_)
     clear hK K hown9 hg9
     try simp only [Act.put, List.setIfInBounds_toArray, List.set]
     refine wpAnyH_ready (rs := [13]) (by kernel_rfl) (by simp) ?_
     refine csbr (x := fun K hK => ?_) (y := AllReadyH.nil)
     go_simp
     have HD10 := hid (HD9.out.alloc (by omega) (.cells #[.slice (some ⟨b, o, none⟩) L tc, .slice ra q rc, .slice xa (L + 1) xc] 68))
     have HPB := hid (BoxN.new w9 #[.slice (some ⟨b, o, none⟩) L tc, .slice ra q rc, .slice xa (L + 1) xc] 68)
     refine hK.out _ _ (HG.out _ HD10.out) (fun hHeld => ?_)
     clear hK K
     try simp only [Act.put, List.setIfInBounds_toArray, List.set]
     refine tkbr (i := 14) (v := ?_) (y := (Or.inl ⟨by rfl, ?_⟩)) (z := ?_)
     rotate_left
     ·(intro w' hSw; (try dsimp only at hSw); go_simp) <;> with_reducible rfl
     try simp only [Act.put, List.setIfInBounds_toArray, List.set]
     refine wpAnyH_done (by kernel_rfl) ?_ _
     have hz10 : (w9.alloc (.cells #[.slice (some ⟨b, o, none⟩) L tc, .slice ra q rc, .slice xa (L + 1) xc] 68)).heap.size = w9.heap.size + 1 := by simp
     have HOW10 := hid (HOWN9.out.alloc (.cells #[.slice (some ⟨b, o, none⟩) L tc, .slice ra q rc, .slice xa (L + 1) xc] 68))
     have HSN : Hid (RdTa (w9.alloc (.cells #[.slice (some ⟨b, o, none⟩) L tc, .slice ra q rc, .slice xa (L + 1) xc] 68)) (· < (w9.alloc (.cells #[.slice (some ⟨b, o, none⟩) L tc, .slice ra q rc, .slice xa (L + 1) xc] 68)).heap.size) (.slice xa (L + 1) xc) (ts ++ [ts.getD 0 Ta.z])) := hid (rdTa_snoc (x := ts.getD 0 Ta.z) HXL.out (by rw [← HI0.out, ← HN0.out]; exact HOW10.out) (fun i hi => (HKDD.out _ HD10.out i hi).more fun b hb => by have := hb.2; omega) (by rw [HT0.out]; exact (HKDD.out _ HD10.out 0 (by omega)).more fun b hb => by have := hb.2; omega))
     have HTS6 := hid ((HTSD.out _ HD10.out).more (S' := (· < (w9.alloc (.cells #[.slice (some ⟨b, o, none⟩) L tc, .slice ra q rc, .slice xa (L + 1) xc] 68)).heap.size)) fun b hb => by have := hb.2; omega)
     have HQR6 := hid ((HQRD.out _ HD10.out).more (S' := (· < (w9.alloc (.cells #[.slice (some ⟨b, o, none⟩) L tc, .slice ra q rc, .slice xa (L + 1) xc] 68)).heap.size)) fun b hb => by have := hb.2; omega)
     have HQB6 := hid (HQBD.out _ HD10.out)
     have HB6 := hid (HBLW.out _ HD10.out)
     have HRW6 := hid ((HV.out.keep (w' := w9.alloc (.cells #[.slice (some ⟨b, o, none⟩) L tc, .slice ra q rc, .slice xa (L + 1) xc] 68)) fun p (hp : p.block < w.heap.size) => HB6.out.cell (p := p) hp).more (S' := (· < (w9.alloc (.cells #[.slice (some ⟨b, o, none⟩) L tc, .slice ra q rc, .slice xa (L + 1) xc] 68)).heap.size)) fun b (hb : b < w.heap.size) => Nat.lt_of_lt_of_le hb HB6.out.size)
     generalize w9.alloc (.cells #[.slice (some ⟨b, o, none⟩) L tc, .slice ra q rc, .slice xa (L + 1) xc] 68) = W6 at *
     generalize hpb : w9.heap.size = pb at *
     have HLIST : Hid (∀ i, i < 3 → ∃ (xs : List Ta) (xa : Option Addr) (xn xc : Nat), W6.cell? ⟨pb, i, none⟩ = some (.slice xa xn xc) ∧ RdTa W6 (· < W6.heap.size) (.slice xa xn xc) xs ∧ SzL xs) := hid (fun i hi => by
      match i, hi with
      | 0, _ => exact ⟨ts, _, _, _, HPB.out.cell 0 rfl, HTS6.out, szL_of HLV.out.2.1⟩
      | 1, _ => exact ⟨rt, _, _, _, HPB.out.cell 1 rfl, HRW6.out, HSZ.out⟩
      | 2, _ => exact ⟨ts ++ [ts.getD 0 Ta.z], _, _, _, HPB.out.cell 2 rfl, HSN.out, szL_of fun t ht => by
        rcases List.mem_append.1 ht with h | h
        ·exact HLV.out.2.1 _ h
        ·rw [List.mem_singleton.1 h]; exact HLV.out.2.1 _ (getD_mem (by rw [HXL.out]; omega) Ta.z)⟩
      | i + 3, h => omega)
     have hpbl : pb < W6.heap.size := HPB.out.lt
     have HTP := hid (fun W (hW : Below W6.heap.size W6 W) => (⟨HTT.out.below (HB6.out.trans (hW.mono HB6.out.size)), HPP.out.below (HB6.out.trans (hW.mono HB6.out.size)) (Nat.le_refl _), HB6.out.trans (hW.mono HB6.out.size), HOO.out.below (HB6.out.trans (hW.mono HB6.out.size))⟩ : Tabs W ∧ Pow W ∧ Below w.heap.size w W ∧ Fr.OneAt W))
     have HSQ := hid (szT_of HTV.out)
     rw [HLQ.out] at HQR6 HQB6 ⊢
     clear HG hHeld HDR HD1 HD9 HD10 HNN HOWN9 HOW10 HSN HTS6 HPB HCD HKDD HTSD HQRD HQBD HBLW HBD HI0 HN0 HT0 HRW6 HB1 HB2 HB3 HB4 HB5 HTV HLV HXL HLI HRO HV HSZ HRL HLQ
     go_wp2_with fail
     subst hLB
     go_loopg [84] 3 (fun N i wr => ∃ j : Nat, j + N = 3 ∧ i = .int .i64 (j : Int) ∧ Hid (Below W6.heap.size W6 wr))
     case atStart => exact ⟨0, by omega, rfl, hid (Below.refl _ _)⟩
     case round =>
      obtain ⟨j3, hj3, rfl, HB7⟩ := hrel
      have hwz7 := HB7.out.size
      by_cases hp3 : 0 < gk
      ·obtain ⟨xs, la, ln, lc, hcl, hrl, hsl⟩ := HLIST.out j3 (by omega)
       have e0 := (HB7.out.cell (p := ⟨pb, j3, none⟩) hpbl).trans hcl
       have HRL := hid hrl
       have HSL := hid hsl
       clear hcl hrl hsl
       obtain ⟨r2, hr2⟩ : ∃ r2, k % 2 = r2 := ⟨_, rfl⟩
       have hr20 : 0 ≤ r2 ∧ r2 < 2 := by omega
       have hw2 : IntKind.i64.wrap (1024 + r2) = 1024 + r2 := IntWalk.i64_in _ (by omega)
       have HM5 := hid (fun W => kit_Mod k 5 (by omega) (by omega) W)
       have HM2 := hid (fun W => kit_Mod k 2 (by omega) (by omega) W)
       rw [hr2] at HM2
       clear hr2
       obtain ⟨ko, rfl⟩ : ∃ ko, ko = gk := ⟨gk, rfl⟩
       go_wp2_with fail
       with_reducible refine (HM5.out _).mono ?_
       rintro e _ ⟨rfl, rfl⟩
       go_wp2_with fail
       with_reducible refine (HM2.out _).mono ?_
       rintro e _ ⟨rfl, rfl⟩
       generalize k % 5 = r5 at *
       clear HM5 HM2
       go_wp2_with fail
       clear e0
       have HX7 := hid (BoxN.new wr #[.int .i64 k, .int .i64 r5, .int .i64 (1024 + r2)] 3)
       have HB8 := hid (HB7.out.alloc hwz7 (.cells #[.int .i64 k, .int .i64 r5, .int .i64 (1024 + r2)] 3))
       have hz8 : (wr.alloc (.cells #[.int .i64 k, .int .i64 r5, .int .i64 (1024 + r2)] 3)).heap.size = wr.heap.size + 1 := by simp
       generalize wr.alloc (.cells #[.int .i64 k, .int .i64 r5, .int .i64 (1024 + r2)] 3) = W8 at *
       generalize wr.heap.size = nb at *
       have hnbl : nb < W8.heap.size := HX7.out.lt
       have HKS : Hid (∀ i, i < 3 → ∃ z : Int, W8.cell? ⟨nb, i, none⟩ = some (.int .i64 z)) := hid (fun i hi => by
        match i, hi with
        | 0, _ => exact ⟨_, HX7.out.cell 0 rfl⟩
        | 1, _ => exact ⟨_, HX7.out.cell 1 rfl⟩
        | 2, _ => exact ⟨_, HX7.out.cell 2 rfl⟩
        | i + 3, h => omega)
       clear HX7
       go_loopg [96] 3 (fun N i wr => ∃ j : Nat, j + N = 3 ∧ i = .int .i64 (j : Int) ∧ Hid (Below W8.heap.size W8 wr))
       case atStart => exact ⟨0, by omega, rfl, hid (Below.refl _ _)⟩
       case round =>
        obtain ⟨j4, hj4, rfl, HB9⟩ := hrel
        have hwz9 := HB9.out.size
        have hwz8 := HB8.out.size
        have HBW := hid (HB8.out.trans (HB9.out.mono hwz8))
        by_cases hp4 : 0 < gk
        ·obtain ⟨z, hz⟩ := HKS.out j4 (by omega)
         have e0 := (HB9.out.cell (p := ⟨nb, j4, none⟩) hnbl).trans hz
         have HT1 := hid (fun W (hW : Below W6.heap.size W6 W) => copies_TopX xs (.slice la ln lc) (.slice qa yc.length qk) ⟨0, yn, yc⟩ z W6.heap.size W HSL.out HSQ.out (HRL.out.keep fun p (hp : p.block < W6.heap.size) => hW.cell (p := p) hp) (HQR6.out.keep fun p (hp : p.block < W6.heap.size) => hW.cell (p := p) hp) hW.size (HTP.out W hW).1 (HTP.out W hW).2.1 (HTP.out W hW).2.2.2)
         have HT2 := hid (fun W (hW : Below W6.heap.size W6 W) => ref36_TopX xs (.slice la ln lc) (.slice qa yc.length qk) ⟨0, yn, yc⟩ z W6.heap.size W HSL.out HSQ.out (HRL.out.keep fun p (hp : p.block < W6.heap.size) => hW.cell (p := p) hp) (HQR6.out.keep fun p (hp : p.block < W6.heap.size) => hW.cell (p := p) hp) hW.size (HTP.out W hW).1)
         have hxq := HQB6.out.below HBW.out HQB6.out.lt
         have x0 := hxq.cell 0 rfl
         have x1 := hxq.cell 1 rfl
         have x2 := hxq.cell 2 rfl
         clear hxq hz
         generalize hyl2 : yc.length = lq2 at *
         go_wp2_with fail
         with_reducible refine (HT1.out _ HBW.out).mono ?_
         clear x0 x1 x2 e0
         rintro e w10 ⟨ua, un, uc, I1, rfl, hb10, hm1, h1a, h1b⟩
         have HBX := hid (HBW.out.trans (hb10.mono HBW.out.size))
         have HB10 := hid (HB9.out.trans (hb10.mono hwz9))
         have HM1 := hid hm1
         have HI1 := hid h1a
         have HJ1 := hid h1b
         have hxq := HQB6.out.below HBX.out HQB6.out.lt
         have x0 := hxq.cell 0 rfl
         have x1 := hxq.cell 1 rfl
         have x2 := hxq.cell 2 rfl
         clear hxq hb10 hm1 h1a h1b
         go_wp2_with fail
         with_reducible refine (HT2.out _ HBX.out).mono ?_
         clear x0 x1 x2
         rintro e w11 ⟨va, vn, vc, I2, rfl, hb11, hm2, h2a, h2b⟩
         have HB11 := hid (HB10.out.trans (hb11.mono HB10.out.size))
         have HM1' := hid (HM1.out.later hb11)
         obtain rfl : I2 = I1 := topX_same HI1.out HJ1.out h2a h2b
         have HM2 := hid hm2
         have hEE : (topE xs ⟨0, yn, yc⟩ z != topE xs ⟨0, yn, yc⟩ z) = false := by simp
         generalize topE xs ⟨0, yn, yc⟩ z = E at *
         clear hb11 hm2 h2a h2b HI1 HJ1 HM1
         go_wp2_with fail
         with_reducible refine (ref28_Same xs yc ua va un vn uc vc I2 _ HM1'.out HM2.out (by omega)).mono ?_
         rintro e w12 ⟨rfl, hb12⟩
         have HB12 := hid (HB11.out.trans (hb12.mono HB11.out.size))
         clear hb12 HM1' HM2
         go_wp2
         go_roundg (gk - 1)
         case rel => exact ⟨j4 + 1, by omega, by go_num, HB12⟩
         case measure => omega
        ·obtain rfl : j4 = 3 := by omega
         go_wp2
         go_roundg (ko - 1)
         case rel => exact ⟨j3 + 1, by omega, by go_num, HBW⟩
         case measure => omega
      ·obtain rfl : j3 = 3 := by omega
       have HBE := hid (HTP.out _ HB7.out).2.2.1
       go_wp2_with fail
       with_reducible refine (HAW.out _ HBE.out).mono ?_
       rintro e w13 ⟨rfl, hb⟩
       have HBF := hid (HBE.out.trans (hb.mono HBE.out.size))
       clear hb
       go_wp2
       go_ret
       exact ⟨rfl, HBF.out⟩
 ·rw [decide_eq_false hg] at HLI
  go_enter Tryz.func6, Tryz.ntmps6
  generalize hLA : Code.loop _ = LA
  generalize hLB : Code.loop _ = LB
  clear hLA hLB
  go_wp2_with fail
  with_reducible refine HLI.out.mono ?_
  rintro e w0 ⟨rfl, rfl⟩
  go_wp2_with fail
  with_reducible refine (HAW.out _ (Below.refl _ _)).mono ?_
  rintro e w1 ⟨rfl, hb1⟩
  have HB1 := hid hb1
  clear hb1
  go_wp2
  go_ret
  exact ⟨rfl, HB1.out⟩
end Go.Proofs.YthblaeleogdfpaaGreatDoor
