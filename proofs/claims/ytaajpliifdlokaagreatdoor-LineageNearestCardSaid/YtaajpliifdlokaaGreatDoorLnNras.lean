/- Contract of explain.pick: a table with some of its rows, in new memory. Contracts of explain.keep, of its closure, and of slices.DeleteFunc at this closure. -/
import Derived.Test.YtaajpliifdlokaaGreatDoorLnNrar
import Derived.Test.YtaajpliifdlokaaGreatDoorLnNral
import Derived.Lib.LazyBuf
import Derived.Lib.SliceRun
import Derived.Test.YtaajpliifdlokaaGreatDoorLnNram
set_option linter.unusedVariables false
set_option linter.unusedSimpArgs false
namespace Go.Proofs.YtaajpliifdlokaaGreatDoor
open Go.RowKit
theorem made_cellsM (n : Nat) (h : n ≤ 1048576) (w : World) :
    (Instr.makeSlice 53 (.int .i64 (n : Int)) (.int .i64 (n : Int))).run Tryz.prog w = .ok (.slice (some ⟨w.heap.size, 0, none⟩) n n) (w.alloc (.cells (madeCells #[.bool false, .string ⟨#[]⟩] (n * 2)) 84)) := by
  obtain ⟨i, hi, hz, hs, hb⟩ := info_parts info_cell
  have hr := run_make (P := Tryz.prog) w 53 84 i _ Tryz.underlying53 hi hz .i64 .i64 n n (by omega) (Int.le_refl _) (by rw [hb]; omega) (by omega)
  simp only [Int.toNat_natCast, hs, Value.cells] at hr
  exact hr
def fillC (pl : List Cl) (q idx : Nat) : Value := if idx < q * 2 then clF pl (idx / 2) (idx % 2) else clF [] 0 (idx % 2)
theorem fillC_made (pl : List Cl) (w : World) (n : Nat) (t : TypeId) : (w.alloc (.cells (madeCells #[.bool false, .string ⟨#[]⟩] (n * 2)) t)).rowIs w.heap.size t (n * 2) (fillC pl 0) := by
  have h := World.rowIs_alloc w (madeCells #[.bool false, .string ⟨#[]⟩] (n * 2)) t (fillC pl 0) (fun i hi => by
    rw [size_madeCells] at hi
    unfold fillC
    rw [if_neg (by omega)]
    rcases (show i % 2 = 0 ∨ i % 2 = 1 by omega) with e | e <;> simp [madeCells, hi, e, clF, two, Cl.z])
  rwa [size_madeCells] at h
theorem fillC_step {w : World} {b m q : Nat} {t : TypeId} {pl : List Cl} (h : w.rowIs b t (m * 2) (fillC pl q)) {c : Cl} (hc : pl.getD q Cl.z = c) :
    ((w.setCell ⟨b, q * 2, none⟩ (.bool c.null)).setCell ⟨b, q * 2 + 1, none⟩ (.string c.text)).rowIs b t (m * 2) (fillC pl (q + 1)) := by
  refine ((h.set (q * 2) _).set (q * 2 + 1) _).congr fun j hj => ?_
  unfold fillC
  by_cases e1 : j = q * 2 + 1
  · rw [if_pos e1, if_pos (by omega), show j / 2 = q by omega, show j % 2 = 1 by omega, ← hc]
    rfl
  · rw [if_neg e1]
    by_cases e0 : j = q * 2
    · rw [if_pos e0, if_pos (by omega), show j / 2 = q by omega, show j % 2 = 0 by omega, ← hc]
      rfl
    · rw [if_neg e0]
      by_cases h2 : j < q * 2
      · rw [if_pos h2, if_pos (by omega)]
      · rw [if_neg h2, if_neg (by omega)]
theorem fillC_done {w : World} {b : Nat} {t : TypeId} {pl : List Cl} {m : Nat} (hm : m = pl.length) (h : w.rowIs b t (m * 2) (fillC pl m)) (hl : m ≤ maxLen) : RdCl w (· = b) (.slice (some ⟨b, 0, none⟩) m m) pl := by
  subst hm
  refine ⟨_, _, rfl, Nat.le_refl _, hl, fun _ => ⟨b, 0, rfl, rfl, fun i hi j hj => ?_⟩⟩
  rw [show 0 + i * 2 + j = i * 2 + j by omega, h.cell (i := i * 2 + j) (by omega)]
  unfold fillC
  rw [if_pos (by omega), show (i * 2 + j) / 2 = i by omega, show (i * 2 + j) % 2 = j by omega]
def mixC (xs : List Co) (rs : List Nat) (q : Nat) : List Co := selL (xs.take q) rs ++ xs.drop q
theorem mix_at {xs : List Co} {rs : List Nat} {q i : Nat} (hq : q ≤ xs.length) : (mixC xs rs q).getD i Co.z = if i < q then pickC (xs.getD i Co.z) rs else xs.getD i Co.z := by
  unfold mixC selL
  by_cases h : i < q
  · rw [if_pos h, List.getD_eq_getElem?_getD, List.getElem?_append_left (by simp; omega)]
    simp [List.getD, h, show i < xs.length by omega]
  · rw [if_neg h, List.getD_eq_getElem?_getD, List.getElem?_append_right (by simp; omega)]
    simp only [List.length_map, List.length_take, List.getElem?_drop]
    rw [show q + (i - min q xs.length) = i by omega]
    rfl
theorem mix_zero (xs : List Co) (rs : List Nat) : mixC xs rs 0 = xs := by simp [mixC, selL]
theorem mix_all (xs : List Co) (rs : List Nat) : mixC xs rs xs.length = selL xs rs := by simp [mixC]
set_option maxRecDepth 100000 in
set_option maxHeartbeats 4000000 in
theorem expl_pick (id : Int) (nm : ByteArray) (v u : Value) (xs : List Co) (rs : List Nat) (B n : Nat) (w : World) (hv : RdCo w (· < B) v xs) (hu : Rd w B u rs.length (natF rs)) (hB : B ≤ w.heap.size) (hl : xs.length ≤ 1048576) (hc : ∀ x ∈ xs, x.cells.length = n) (hn : n ≤ 1048576) (hrs : ∀ r ∈ rs, r < n) (hrl : rs.length ≤ 1048576) :
  Calls Tryz.prog 249 #[.agg #[.int .i64 id, .string nm, v], u] w (NewT w id nm (selL xs rs)) := by
 have HOW := hid (fun W (hW : Below w.heap.size w W) => lists_Own id nm v xs B W (hv.keep fun p (hp : p.block < B) => hW.cell (p := p) (by omega)) (Nat.le_trans hB hW.size) hl (fun x hx => by rw [hc x hx]; omega))
 have HRS := hid (fun q (hq : q < rs.length) => hrs _ (getD_mem hq 0))
 obtain ⟨cv, hcv, hcl⟩ := hv
 obtain ⟨va, vc, rfl, hvc, hvm, hr⟩ := hcv
 obtain ⟨ua, uc, rfl, huc, hum, hur⟩ := hu
 have HR := hid hr
 have HCL := hid hcl
 have HUR := hid hur
 have HC := hid (fun q (hq : q < xs.length) => hc _ (getD_mem hq Co.z))
 have HMX := hid (fun q i (hq : q ≤ xs.length) => @mix_at xs rs q i hq)
 have HM0 := hid (mix_zero xs rs)
 have HML := hid (mix_all xs rs)
 have HSL := hid (selL_len xs rs)
 clear hr hcl hur hc hrs
 unfold maxLen at hvm hum
 generalize hml : rs.length = m at *
 have HRL := hid hml
 clear hml
 generalize hxl : xs.length = L at *
 have HXL := hid hxl
 clear hxl
 have hmk := made_cellsM m hrl
 have HX0 := hid ((BoxN.new w #[.int .i64 id, .string nm, .slice va L vc] 51).alloc (.cells #[.int .i64 0, .string ⟨#[]⟩, .slice none 0 0] 51))
 have hy0 := BoxN.new (w.alloc (.cells #[.int .i64 id, .string nm, .slice va L vc] 51)) #[.int .i64 0, .string ⟨#[]⟩, .slice none 0 0] 51
 rw [World.size_alloc] at hy0
 have HY0 := hid hy0
 have HB0 := hid (((Below.refl w.heap.size w).alloc (Nat.le_refl _) (.cells #[.int .i64 id, .string nm, .slice va L vc] 51)).alloc (by simp) (.cells #[.int .i64 0, .string ⟨#[]⟩, .slice none 0 0] 51))
 have hz0' : ((w.alloc (.cells #[.int .i64 id, .string nm, .slice va L vc] 51)).alloc (.cells #[.int .i64 0, .string ⟨#[]⟩, .slice none 0 0] 51)).heap.size = w.heap.size + 2 := by simp
 have x0 := HX0.out.cell 0 rfl
 have x1 := HX0.out.cell 1 rfl
 have x2 := HX0.out.cell 2 rfl
 clear hy0
 go_enter Tryz.func249, Tryz.ntmps249
 generalize hLA : Code.loop _ = LA
 go_wp2_with fail
 generalize (w.alloc (.cells #[.int .i64 id, .string nm, .slice va L vc] 51)).alloc (.cells #[.int .i64 0, .string ⟨#[]⟩, .slice none 0 0] 51) = W0 at *
 with_reducible refine (HOW.out W0 HB0.out).mono ?_
 rintro e w1 ⟨y, rfl, hco1, hb1⟩
 have hz1' := hb1.size
 have HB1 := hid (HB0.out.trans (hb1.mono (by omega)))
 have HX1 := hid (HX0.out.below hb1 (by omega))
 have HY1 := hid (HY0.out.below hb1 (by omega))
 obtain ⟨cv1, hco1⟩ := hco1
 have hrow1 := hco1.row
 rw [HXL.out] at hrow1
 have HO1 : Hid (OwnAt w1 W0.heap.size 55 y L 0 (mixC xs rs 0) cv1 cv1) := hid ⟨by rw [HM0.out]; exact hrow1, hco1.low, fun i hi => absurd hi (by omega), fun i _ => rfl⟩
 obtain ⟨a1, c1, rfl⟩ := own_slice hrow1
 have HGW : Hid (∀ k, (Value.slice a1 L c1).ownBlock = some k → k < w1.heap.size) := hid (fun k hk => (hrow1.lt k hk).2)
 clear x0 x1 x2 hb1 hco1 hrow1 HOW HM0
 have x2 := HX1.out.cell 2 rfl
 have hoz := BoxN.new w1 #[.int .i64 id, .string nm, .slice a1 L c1] 51
 have HQ2 := hid hoz
 have HX2 := hid (HX1.out.alloc (.cells #[.int .i64 id, .string nm, .slice a1 L c1] 51))
 have HY2 := hid (HY1.out.alloc (.cells #[.int .i64 id, .string nm, .slice a1 L c1] 51))
 have HB2 := hid (HB1.out.alloc (by omega) (.cells #[.int .i64 id, .string nm, .slice a1 L c1] 51))
 have HO2 := hid (HO1.out.later ((Below.refl _ _).alloc (Nat.le_refl _) (.cells #[.int .i64 id, .string nm, .slice a1 L c1] 51)))
 have hz2' : (w1.alloc (.cells #[.int .i64 id, .string nm, .slice a1 L c1] 51)).heap.size = w1.heap.size + 1 := by simp
 have p2 := HX2.out.cell 2 rfl
 clear hoz
 go_wp2_with fail
 generalize w1.alloc (.cells #[.int .i64 id, .string nm, .slice a1 L c1] 51) = W2 at *
 clear x2 p2
 subst hLA
 go_loopg [16] L (fun N i wr => ∃ (q : Nat) (cw : Nat → Value), i = .int .i64 (q : Int) ∧ q + N = L ∧ Hid (Below w.heap.size w wr) ∧ w1.heap.size < wr.heap.size ∧ Hid (BoxN wr (w.heap.size + 1) 51 #[.int .i64 0, .string ⟨#[]⟩, .slice none 0 0]) ∧ Hid (BoxN wr w1.heap.size 51 #[.int .i64 id, .string nm, .slice a1 L c1]) ∧ Hid (OwnAt wr W0.heap.size 55 (.slice a1 L c1) L q (mixC xs rs q) cw cv1))
 case atStart => exact ⟨0, cv1, rfl, by omega, HB2, by omega, HY2, HQ2, HO2⟩
 case round =>
  obtain ⟨q, cw, rfl, hq, HB, hlw, HY, HQ, HO⟩ := hrel
  have hlo := HO.out.low
  obtain ⟨wo, rfl⟩ : ∃ wo, wo = wr := ⟨wr, rfl⟩
  by_cases hp : 0 < gk
  ·have hqL : q < L := by omega
   obtain ⟨g, cap, hg, hgb, hglt⟩ := HO.out.row.form (by omega)
   obtain ⟨rfl, -, rfl⟩ := Value.slice.inj hg
   clear hg
   obtain ⟨ba, oa, rfl, hba, hcella⟩ := HR.out (by omega)
   have hba' : ba < B := hba
   have k1 : wo.cell? ⟨ba, oa + q * 2, none⟩ = some (.string (xs.getD q Co.z).name) := (HB.out.cell (p := ⟨ba, oa + q * 2, none⟩) (by show ba < w.heap.size; omega)).trans (hcella q hqL 0 (by omega))
   have k2 : wo.cell? ⟨ba, oa + q * 2 + 1, none⟩ = some (cv q) := (HB.out.cell (p := ⟨ba, oa + q * 2 + 1, none⟩) (by show ba < w.heap.size; omega)).trans (hcella q hqL 1 (by omega))
   obtain ⟨ca, ck, hcq, -, hckm, hcr⟩ := HCL.out q hqL
   have hcn := HC.out q hqL
   rw [hcq, hcn] at k2
   rw [hcn] at hcr
   have HCR := hid hcr
   have HM1 : Hid ((mixC xs rs (q + 1)).getD q Co.z = pickC (xs.getD q Co.z) rs) := hid (by rw [HMX.out (q + 1) q (by omega), if_pos (by omega)])
   have HMN : Hid ((mixC xs rs q).getD q Co.z = xs.getD q Co.z) := hid (by rw [HMX.out q q (by omega), if_neg (by omega)])
   have HMO : Hid (∀ i, i ≠ q → (mixC xs rs (q + 1)).getD i Co.z = (mixC xs rs q).getD i Co.z) := hid (fun i hi => by
    rw [HMX.out (q + 1) i (by omega), HMX.out q i (by omega)]
    by_cases h : i < q
    ·rw [if_pos h, if_pos (by omega)]
    ·rw [if_neg h, if_neg (by omega)])
   clear hcella hcq hcr hcn
   generalize xs.getD q Co.z = x at *
   have HPL : Hid (∀ r, r < m → (pickC x rs).cells.getD r Cl.z = x.cells.getD (rs.getD r 0) Cl.z) := hid (fun r hr => by
    have hr' : r < rs.length := by rw [HRL.out]; exact hr
    simp [pickC, List.getD, hr'])
   have HPN : Hid ((pickC x rs).cells.length = m) := hid (by simp [pickC]; exact HRL.out)
   have HPX : Hid (pickC x rs = ⟨x.name, (pickC x rs).cells⟩) := hid rfl
   generalize pickC x rs = px at *
   obtain ⟨xn, xc⟩ := x
   simp only at k1 HCR HPL HPX
   have HCB := hid ((BoxN.new wo #[.string xn, .slice ca n ck] 55).alloc (.cells (madeCells #[.bool false, .string ⟨#[]⟩] (m * 2)) 84))
   have hfr := fillC_made px.cells (wo.alloc (.cells #[.string xn, .slice ca n ck] 55)) m 84
   rw [World.size_alloc] at hfr
   have HFR := hid hfr
   have HBO := hid ((((Below.refl wo.heap.size wo).alloc (Nat.le_refl _) (.cells #[.string xn, .slice ca n ck] 55))).alloc (by simp) (.cells (madeCells #[.bool false, .string ⟨#[]⟩] (m * 2)) 84))
   have hz5 : ((wo.alloc (.cells #[.string xn, .slice ca n ck] 55)).alloc (.cells (madeCells #[.bool false, .string ⟨#[]⟩] (m * 2)) 84)).heap.size = wo.heap.size + 2 := by simp
   clear hfr
   generalize hLC : Code.loop _ = LC
   go_wp2_with fail
   generalize (wo.alloc (.cells #[.string xn, .slice ca n ck] 55)).alloc (.cells (madeCells #[.bool false, .string ⟨#[]⟩] (m * 2)) 84) = W5 at *
   subst hLC
   clear k1 k2
   go_loopg [26] m (fun N i wr => ∃ (r : Nat), i = .int .i64 (r : Int) ∧ r + N = m ∧ Hid (Below wo.heap.size wo wr) ∧ wo.heap.size + 2 ≤ wr.heap.size ∧ Hid (BoxN wr wo.heap.size 55 #[.string xn, .slice ca n ck]) ∧ Hid (wr.rowIs (wo.heap.size + 1) 84 (m * 2) (fillC px.cells r)))
   case atStart => exact ⟨0, rfl, by omega, HBO, by omega, HCB, HFR⟩
   case round =>
    obtain ⟨r, rfl, hrq, HG, hlr, HCX, HF⟩ := hrel
    have HB5 := hid (HB.out.trans (HG.out.mono (by have := HB.out.size; omega)))
    by_cases hrp : 0 < gk
    ·obtain ⟨b, o, rfl, hb, hcell⟩ := HUR.out (by omega)
     have hb' : b < B := hb
     have k0 : wr.cell? ⟨b, o + r, none⟩ = some (.int .i64 ((rs.getD r 0 : Nat) : Int)) := (HB5.out.cell (p := ⟨b, o + r, none⟩) (by show b < w.heap.size; omega)).trans (hcell r (by omega))
     have hlt := HRS.out r (by omega)
     have HPLr := hid (HPL.out r (by omega))
     clear hcell
     generalize rs.getD r 0 = rr at *
     have hlt' : (rr : Int) < (n : Int) := by omega
     obtain ⟨b2, o2, rfl, hb2, hcell2⟩ := HCR.out (by omega)
     have hb2' : b2 < B := hb2
     have m0 : wr.cell? ⟨b2, o2 + rr * 2, none⟩ = some (.bool (xc.getD rr Cl.z).null) := (HB5.out.cell (p := ⟨b2, o2 + rr * 2, none⟩) (by show b2 < w.heap.size; omega)).trans (hcell2 rr hlt 0 (by omega))
     have m1 : wr.cell? ⟨b2, o2 + rr * 2 + 1, none⟩ = some (.string (xc.getD rr Cl.z).text) := (HB5.out.cell (p := ⟨b2, o2 + rr * 2 + 1, none⟩) (by show b2 < w.heap.size; omega)).trans (hcell2 rr hlt 1 (by omega))
     clear hcell2
     generalize xc.getD rr Cl.z = cc at *
     have d1 := HCX.out.cell 1 rfl
     have s0 := HF.out.cell (i := r * 2) (by omega)
     have s1 := HF.out.cell (i := r * 2 + 1) (by omega)
     have sf0 := HF.out.frozen (r * 2)
     have sf1 := HF.out.frozen (r * 2 + 1)
     have hr1 : (r : Int) < (m : Int) := by omega
     go_wp2
     go_roundg (gk - 1)
     case rel => exact ⟨r + 1, by go_num, by omega, hid ((HG.out.setCell (by show wo.heap.size ≤ wo.heap.size + 1; omega) _).setCell (by show wo.heap.size ≤ wo.heap.size + 1; omega) _), by simp; omega, hid ((HCX.out.other (by show wo.heap.size + 1 ≠ wo.heap.size; omega) _).other (by show wo.heap.size + 1 ≠ wo.heap.size; omega) _), hid (fillC_step HF.out HPLr.out)⟩
     case measure => omega
    ·obtain rfl : gk = 0 := by omega
     obtain rfl : r = m := by omega
     have HOr := hid (HO.out.later HG.out)
     have hnew : RdCl wr (fun b => W0.heap.size ≤ b ∧ b < wr.heap.size ∧ b ≠ g) (.slice (some ⟨wo.heap.size + 1, 0, none⟩) r r) ((mixC xs rs (q + 1)).getD q Co.z).cells := by
      rw [HM1.out]
      exact (fillC_done HPN.out.symm HF.out (by unfold maxLen; omega)).more fun b hb => by
       have hb' : b = wo.heap.size + 1 := hb
       subst hb'
       exact ⟨by omega, by omega, by omega⟩
     have HPUT := hid (HOr.out.put (ys := mixC xs rs (q + 1)) hqL (by rw [HM1.out, HMN.out]; exact HPX.out) HMO.out hnew)
     have q5 := (ycells HOr.out.row hqL).2
     have fq5 := HOr.out.row.frozenAt (q * 2 + 1)
     have HQr := hid (HQ.out.below HG.out HQ.out.lt)
     have o2 := HQr.out.cell 2 rfl
     have hgw := HO.out.row.lt g rfl
     have hgw1 := HGW.out g rfl
     have HYr := hid (HY.out.below HG.out HY.out.lt)
     clear hnew
     go_wp2
     go_roundg (gk - 1)
     case rel => exact ⟨q + 1, _, by go_num, by omega, hid (HB5.out.setCell (by show w.heap.size ≤ g; omega) _), by simp; omega, hid (HYr.out.other (by show g ≠ w.heap.size + 1; omega) _), hid (HQr.out.other (by show g ≠ w1.heap.size; omega) _), HPUT⟩
     case measure => omega
  ·obtain rfl : gk = 0 := by omega
   obtain rfl : q = L := by omega
   have x0 := HQ.out.cell 0 rfl
   have x1 := HQ.out.cell 1 rfl
   have x2 := HQ.out.cell 2 rfl
   have y0 := HY.out.cell 0 rfl
   have y1 := HY.out.cell 1 rfl
   have y2 := HY.out.cell 2 rfl
   have f0 := HY.out.frozen 0
   have f1 := HY.out.frozen 1
   have f2 := HY.out.frozen 2
   go_wp2
   refine bodyPost_ret (v := .agg #[.int .i64 id, .string nm, .slice a1 q c1]) (by simp [results, Tryz.results249, go_sem, y0, y1, y2]) rfl ⟨_, rfl, ?_, by have := HB.out; repeat' (first | (with_reducible exact Below.refl _ _) | (with_reducible assumption) | (with_reducible refine below_drewN ?_) | (with_reducible refine Below.alloc ?_ ?_ _) | (with_reducible refine Below.drew ?_) | (with_reducible refine Below.setCell ?_ ?_ _) | (with_reducible refine Below.trans ?_ (Below.mono (by with_reducible assumption) ?_)) | go_size)⟩
   have hO := HO.out
   have hml := HML.out
   rw [hml] at hO
   have hdone := hO.done (by rw [HSL.out])
   exact (((hdone.setCell (p := ⟨w.heap.size + 1, 0, none⟩) (by show w.heap.size + 1 < W0.heap.size; omega) _).setCell (p := ⟨w.heap.size + 1, 1, none⟩) (by show w.heap.size + 1 < W0.heap.size; omega) _).setCell (p := ⟨w.heap.size + 1, 2, none⟩) (by show w.heap.size + 1 < W0.heap.size; omega) _).lower (by omega)
end Go.Proofs.YtaajpliifdlokaaGreatDoor

namespace Go.Proofs.YtaajpliifdlokaaGreatDoor
open Go.RowKit
set_option maxRecDepth 100000 in
set_option maxHeartbeats 2000000 in
theorem expl_keep1 (o : Po) (hk : o.kind = 1 ∨ o.kind = 2) (id : Int) (nm : ByteArray) (v u : Value) (xs : List Co) (i tb ob B : Nat) (w : World) (hv : RdCo w (· < B) v xs) (hB : B ≤ w.heap.size) (hcol : 0 ≤ o.col ∧ o.col < xs.length) (hi : ∀ x ∈ xs, i < x.cells.length)
  (ht : BoxN w tb 51 #[.int .i64 id, .string nm, v]) (ho : BoxN w ob 122 #[.int .i64 o.kind, .int .i64 o.col, .string o.text, u]) :
  Calls Tryz.prog 264 #[.int .i64 (i : Int), .pointer (some ⟨tb, 0, none⟩), .pointer (some ⟨ob, 0, none⟩)] w (Ret w (.bool (!keepF xs o i))) := by
 obtain ⟨kk, hkk⟩ : ∃ kk : Nat, o.col = (kk : Int) := ⟨o.col.toNat, by omega⟩
 have hkl : kk < xs.length := by omega
 have HD : Hid (keepF xs o i = if o.kind = 1 then !((xs.getD kk Co.z).cells.getD i Cl.z).null && decide (((xs.getD kk Co.z).cells.getD i Cl.z).text = o.text) else !((xs.getD kk Co.z).cells.getD i Cl.z).null) := hid (by
  unfold keepF cellAt
  rw [hkk]
  rfl)
 obtain ⟨cv, ⟨va, vc, rfl, hvc, hvm, hr⟩, hcl⟩ := hv
 obtain ⟨b, oo, rfl, hb, hcell⟩ := hr (by omega)
 have hbw : b < w.heap.size := by have : b < B := hb; omega
 obtain ⟨ca, ck, hcq, -, -, hcr⟩ := hcl kk hkl
 have k1 : w.cell? ⟨b, oo + kk * 2 + 1, none⟩ = some (cv kk) := hcell kk hkl 1 (by omega)
 have hiq := hi _ (getD_mem hkl Co.z)
 obtain ⟨b2, o2, rfl, hb2, hcell2⟩ := hcr (by omega)
 have m0 : w.cell? ⟨b2, o2 + i * 2, none⟩ = some (.bool ((xs.getD kk Co.z).cells.getD i Cl.z).null) := hcell2 i hiq 0 (by omega)
 have m1 : w.cell? ⟨b2, o2 + i * 2 + 1, none⟩ = some (.string ((xs.getD kk Co.z).cells.getD i Cl.z).text) := hcell2 i hiq 1 (by omega)
 rw [hcq] at k1
 unfold maxLen at hvm
 generalize keepF xs o i = R at *
 obtain ⟨kind, col, text, cols⟩ := o
 simp only at *
 subst hkk
 have hkl' : (kk : Int) < (xs.length : Int) := by omega
 have hii : (i : Int) < ((xs.getD kk Co.z).cells.length : Int) := by omega
 clear hcell hcell2 hcr hcq hr hcl hi hcol
 generalize (xs.getD kk Co.z).cells.getD i Cl.z = cc at *
 generalize (xs.getD kk Co.z).cells.length = n at *
 generalize xs.length = L at *
 obtain ⟨cn, ct⟩ := cc
 simp only at m0 m1 HD
 have t2 := ht.cell 2 rfl
 have o0 := ho.cell 0 rfl
 have o1 := ho.cell 1 rfl
 have o2' := ho.cell 2 rfl
 have HCX := hid (BoxN.new w #[.bool cn, .string ct] 84)
 have d0 := HCX.out.cell 0 rfl
 have d1 := HCX.out.cell 1 rfl
 have hox := ho.alloc (.cells #[.bool cn, .string ct] 84)
 have p0 := hox.cell 0 rfl
 have p2 := hox.cell 2 rfl
 have HB : Hid (Below w.heap.size w (w.alloc (.cells #[.bool cn, .string ct] 84))) := hid ((Below.refl _ _).alloc (Nat.le_refl _) _)
 clear ht ho hox
 cases cn with
 | true =>
  have HR : Hid (R = false) := hid (by rw [HD.out]; split <;> rfl)
  clear HD
  go_enter Tryz.func264, Tryz.ntmps264
  go_wp2
  go_ret
  exact ⟨ret_bool (by rw [HR.out]; rfl), HB.out⟩
 | false =>
  rcases hk with rfl | rfl
  ·by_cases h : ct = text
   ·have HR : Hid (R = true) := hid (by rw [HD.out, if_pos rfl, h]; simp)
    subst h
    have h2 : (ct.toList == ct.toList) = true := by simp
    clear HD
    go_enter Tryz.func264, Tryz.ntmps264
    go_wp2
    go_ret
    exact ⟨ret_bool (by rw [HR.out]; rfl), HB.out⟩
   ·have HR : Hid (R = false) := hid (by rw [HD.out, if_pos rfl, decide_eq_false h]; rfl)
    have h2 : (ct.toList == text.toList) = false := by
     cases h5 : (ct.toList == text.toList) with
     | false => rfl
     | true => exact absurd (bytes_ext (eq_of_beq h5)) h
    clear HD
    go_enter Tryz.func264, Tryz.ntmps264
    go_wp2
    go_ret
    exact ⟨ret_bool (by rw [HR.out]; rfl), HB.out⟩
  ·have HR : Hid (R = true) := hid (by rw [HD.out, if_neg (by decide)]; rfl)
   clear HD
   go_enter Tryz.func264, Tryz.ntmps264
   go_wp2
   go_ret
   exact ⟨ret_bool (by rw [HR.out]; rfl), HB.out⟩
theorem setCells_roll {B b : Nat} {a : World} : ∀ (vs : List Value) (o : Nat) (w : World), Roll B b a w → Roll B b a (w.setCells b o vs)
  | [], _, _, h => h
  | v :: r, o, _, h => setCells_roll r (o + 1) _ (h.setCell rfl v)
def stayL (p : Nat → Bool) (j : Nat) : List Nat := (List.range j).filter fun q => !p q
theorem stay_succ (p : Nat → Bool) (j : Nat) : stayL p (j + 1) = if p j = true then stayL p j else stayL p j ++ [j] := by
  unfold stayL
  rw [List.range_succ, List.filter_append]
  cases h : p j <;> simp [h]
theorem stay_all {p : Nat → Bool} {n : Nat} (h : ∀ j, j < n → p j = false) : stayL p n = List.range n := List.filter_eq_self.2 fun j hj => by rw [h j (List.mem_range.1 hj)]; rfl
theorem stay_len (p : Nat → Bool) (j : Nat) : (stayL p j).length ≤ j := by
  have := List.length_filter_le (fun q => !p q) (List.range j)
  rw [List.length_range] at this
  exact this
def Stays (w : World) (b n : Nat) (F : List Nat) (e : Ending) (w' : World) : Prop :=
  e = .returned (.slice (some ⟨b, 0, none⟩) F.length n) ∧ F.length ≤ n ∧ (∀ i, i < F.length → w'.cell? ⟨b, i, none⟩ = some (natF F i)) ∧ Roll w.heap.size b w w'
set_option maxRecDepth 100000 in
set_option maxHeartbeats 2000000 in
theorem del_keep (n b tb ob : Nat) (p : Nat → Bool) (w : World) (hN : Nums w b (List.range n)) (hn : n ≤ 1048576)
  (H : ∀ q, q < n → ∀ W, Roll w.heap.size b w W → Calls Tryz.prog 264 #[.int .i64 (q : Int), .pointer (some ⟨tb, 0, none⟩), .pointer (some ⟨ob, 0, none⟩)] W (Ret W (.bool (p q)))) :
  Calls Tryz.prog 262 #[.slice (some ⟨b, 0, none⟩) n n, .func (.func 264) #[] #[.pointer (some ⟨tb, 0, none⟩), .pointer (some ⟨ob, 0, none⟩)]] w (Stays w b n (stayL p n)) := by
 have hbl := World.rowIs.lt hN
 have HH := hid H
 have hrow : w.rowIs b 3 n (fun k => .int .i64 (k : Int)) := by
  have h := hN
  unfold Nums at h
  rw [List.length_range] at h
  exact h.congr fun i hi => by simp [natF, List.getD, hi]
 have HROW := hid hrow
 have HIX := hid (idx_keep (.slice (some ⟨b, 0, none⟩) n n) n (fun k => (k : Int)) p tb ob w.heap.size w ⟨_, _, rfl, Nat.le_refl _, by unfold maxLen; omega, fun _ => ⟨b, 0, rfl, hbl, fun i hi j hj => by
  obtain rfl : j = 0 := by omega
  rw [show 0 + i * 1 + 0 = i by omega]
  exact hrow.cell hi⟩⟩ (Nat.le_refl _) (fun q hq W hW => H q hq W (Roll.of_below hW b)))
 clear H hN hrow
 go_enter Tryz.func262, Tryz.ntmps262
 generalize hLA : Code.loop _ = LA
 go_wp2_with fail
 with_reducible refine HIX.out.mono ?_
 rintro e w1 ⟨r, rfl, hf, hb1⟩
 have HB1 := hid hb1
 have hrow1 := HROW.out.of_block (hb1.block b hbl)
 have HROW1 := hid hrow1
 clear hb1 hrow1 HIX HROW
 rcases hf with ⟨rfl, hall⟩ | ⟨i, rfl, hi, hpi, hbef⟩
 ·have HSA := hid (stay_all hall)
  clear hall
  go_wp2
  go_ret
  unfold Stays
  rw [HSA.out, List.length_range]
  exact ⟨rfl, Nat.le_refl _, fun i hi => by rw [HROW1.out.cell hi]; simp [natF, List.getD, hi], Roll.of_below HB1.out b⟩
 ·have HS0 : Hid (stayL p (i + 1) = List.range i) := hid (by rw [stay_succ, if_pos hpi, stay_all hbef])
  clear hpi hbef
  have hne : ¬ (i : Int) = -1 := by omega
  have HSU := hid (fun j => stay_succ p j)
  go_wp2_with fail
  subst hLA
  go_loopg [5, 6] n (fun N iv jv wr => ∃ (j : Nat) (X : Nat → Nat), n ≤ j + N ∧ j ≤ n ∧ iv = .int .i64 (((stayL p j).length : Nat) : Int) ∧ jv = .int .i64 (j : Int) ∧ (stayL p j).length < j ∧ Hid (Roll w.heap.size b w wr) ∧ Hid (wr.rowIs b 3 n (fun k => .int .i64 ((X k : Nat) : Int))) ∧ Hid (∀ k, k < (stayL p j).length → X k = (stayL p j).getD k 0) ∧ Hid (∀ k, j ≤ k → X k = k))
  case atStart =>
   refine ⟨i + 1, fun k => k, by omega, by omega, ?_, by go_num, ?_, hid (Roll.of_below HB1.out b), HROW1, hid (fun k hk => ?_), hid (fun k _ => rfl)⟩
   ·rw [HS0.out, List.length_range]
   ·rw [HS0.out, List.length_range]; omega
   ·rw [HS0.out, List.length_range] at hk
    rw [HS0.out]
    simp [List.getD, hk]
  case round =>
   obtain ⟨j, X, hj, hjn0, rfl, rfl, hlt, HB, HR, HLO, HHI⟩ := hrel
   by_cases hp : j < n
   ·have hjn : j < n := hp
    have c0 := HR.out.cell (i := j) hjn
    rw [HHI.out j (Nat.le_refl _)] at c0
    have HQ := hid (HH.out j hjn wr HB.out)
    have HSJ := hid (HSU.out j)
    generalize hFj : stayL p j = F at *
    have HFJ := hid hFj
    clear hFj
    generalize hfl : F.length = m at *
    have HFL := hid hfl
    clear hfl
    have hjn' : (j : Int) < (n : Int) := by omega
    go_wp2_with fail
    with_reducible refine HQ.out.mono ?_
    rintro e w4 ⟨rfl, hb4⟩
    have HB4 := hid (HB.out.trans (Roll.of_below (hb4.mono HB.out.size) b))
    have HR4 := hid (HR.out.of_block (hb4.block b (Nat.lt_of_lt_of_le hbl HB.out.size)))
    clear hb4 c0 HQ
    cases hpj : p j with
    | true =>
     have HS2 : Hid (stayL p (j + 1) = F) := hid (by rw [HSJ.out, if_pos hpj])
     clear hpj
     go_wp2
     go_roundg (gk - 1)
     case rel => exact ⟨j + 1, X, by omega, by omega, by rw [HS2.out, HFL.out], by go_num, by rw [HS2.out, HFL.out]; omega, HB4, HR4, by rw [HS2.out]; rw [HFL.out]; exact HLO, hid (fun k hk => HHI.out k (by omega))⟩
     case measure => omega
    | false =>
     have HS2 : Hid (stayL p (j + 1) = F ++ [j]) := hid (by rw [HSJ.out, if_neg (by rw [hpj]; simp)])
     clear hpj
     have s0 := HR4.out.cell (i := m) (by omega)
     have sf0 := HR4.out.frozen m
     have hmn : (m : Int) < (n : Int) := by omega
     go_wp2
     go_roundg (gk - 1)
     case rel =>
      refine ⟨j + 1, fun k => if k = m then j else X k, by omega, by omega, ?_, by go_num, ?_, hid (HB4.out.setCell rfl _), hid ((HR4.out.set m _).congr fun k hk => ?_), hid (fun k hk => ?_), hid (fun k hk => ?_)⟩
      ·rw [HS2.out, List.length_append, List.length_singleton, HFL.out]; go_num
      ·rw [HS2.out, List.length_append, List.length_singleton, HFL.out]; omega
      ·dsimp only
       by_cases e : k = m
       ·subst e; rw [if_pos rfl, if_pos rfl]
       ·rw [if_neg e, if_neg e]
      ·rw [HS2.out, List.length_append, List.length_singleton, HFL.out] at hk
       rw [HS2.out]
       dsimp only
       by_cases e : k = m
       ·subst e
        rw [if_pos rfl, List.getD_eq_getElem?_getD, List.getElem?_append_right (by rw [HFL.out]; omega), HFL.out]
        simp
       ·rw [if_neg e, HLO.out k (by omega)]
        simp [List.getD, List.getElem?_append_left (show k < F.length by rw [HFL.out]; omega)]
      ·dsimp only
       rw [if_neg (by omega)]
       exact HHI.out k (by omega)
     case measure => omega
   ·obtain rfl : j = n := by omega
    generalize hFj : stayL p j = F at *
    generalize hfl : F.length = m at *
    have HFL := hid hfl
    clear hFj hfl HS0
    have hcl : ∀ ty, (Builtin.clear_ #[22] ty #[.slice (some ⟨b, m, none⟩) (j - m) (j - m)]).run Tryz.prog wr = .ok (.tuple #[]) (wr.setCells b m (List.replicate (j - m) (.int .i64 0))) :=
     fun ty => Lib.run_clear_slice wr _ _ ty _ Tryz.underlying22 Tryz.zeroValue3 rfl rfl b m _ _ (by omega) (fun t ht => by rw [HR.out.cell (by omega)]; rfl) (fun t ht => HR.out.frozen _)
    have HRZ := hid (Go.rowIs_setCells (List.replicate (j - m) (.int .i64 0)) m wr _ HR.out)
    have HSC := hid (setCells_roll (B := w.heap.size) (List.replicate (j - m) (.int .i64 0)) m wr HB.out)
    have hmj : (m : Int) < (j : Int) := by omega
    have hmj' : ¬ m = j := by omega
    have hmj2 : ¬ j = m := by omega
    go_wp2
    go_ret
    unfold Stays
    rw [HFL.out]
    refine ⟨rfl, by omega, fun k hk => ?_, HSC.out⟩
    rw [HRZ.out.cell (i := k) (by omega), if_neg (by omega), HLO.out k hk]
    rfl
end Go.Proofs.YtaajpliifdlokaaGreatDoor
