/- The walk of GraphFrom. -/
import Derived.Deep.Cut
import Derived.Deep.CutRange
import Derived.Deep.RegionHeld3
import Derived.Test.YtaajpliifdlokaaGreatDoorGFrbd
import Derived.Test.YtaajpliifdlokaaGreatDoorGFrbe
import Derived.Test.YtaajpliifdlokaaGreatDoorGFrbh
import Derived.Test.YtaajpliifdlokaaGreatDoorGFrav
set_option linter.unusedVariables false
set_option linter.unusedSimpArgs false
namespace Go.Proofs.YtaajpliifdlokaaGreatDoor
open Go.RowKit
theorem JL.few2 {ts : List Ta} (h : JL ts) (hl : ts.length ≤ 4) : FewT ts := ⟨by omega, fun t ht => by have := (h.2 t ht).1; omega⟩
theorem JL.not99 {ts : List Ta} (h : JL ts) (hl : ts.length ≤ 4) : (99 : Int) ∉ idsT ts := by
  rw [h.1]
  intro hm
  obtain ⟨i, hi, e⟩ := List.mem_map.1 hm
  have := List.mem_range.1 hi
  omega
theorem idsT_at {ts : List Ta} {q : Nat} (hq : q < ts.length) : (idsT ts).getD q 0 = (ts.getD q Ta.z).id := by simp [idsT, List.getD, hq]
set_option maxRecDepth 100000 in
set_option maxHeartbeats 8000000 in
theorem law30_from (a : Option Addr) (n c : Nat) (w : World) (hA : RdI w w.heap.size a n c) (hT : Tabs w) (hP : Pow w) (ho : Fr.OneAt w) :
  Calls Tryz.prog 4 #[.slice a n c] w (Ret w (.bool true)) := by
 have HA := hid hA
 have HT := hid hT
 have HP := hid hP
 have hnm : n ≤ maxLen := Nat.le_trans hA.1 hA.2.1
 have HAW := hid (fun W (hW : Below w.heap.size w W) => law30_awake W (hT.below hW) (ho.below hW))
 clear hA hT hP ho
 by_cases hg : n ≤ 500
 ·have HLI := hid (kit_Light a n c w hnm)
  rw [decide_eq_true hg] at HLI
  go_enter Tryz.func4, Tryz.ntmps4
  generalize hLA : Code.loop _ = LA
  go_wp2_with fail
  with_reducible refine HLI.out.mono ?_
  rintro e w0 ⟨rfl, rfl⟩
  clear HLI
  go_wp2_with fail
  with_reducible refine (kit_Roll a n c _ HA.out hg HP.out).mono ?_
  rintro e w1 ⟨rfl, hd1, hb1⟩
  have HB1 := hid hb1
  have hz1 := hd1.lt
  have HKT := hid (kit_Joined w.heap.size w1 hd1)
  clear hd1 hb1
  go_wp2_with fail
  with_reducible refine HKT.out.mono ?_
  rintro e w2 ⟨ts, v, rfl, hrd, hl2, hl4, hj, hlv, -, hr2⟩
  have hfew := hj.few2 hl4
  have hz2 := hr2.size
  have HB2 := hid (HB1.out.trans (hr2.below (B' := w.heap.size) (Nat.le_refl _) (by omega)))
  have hrd2 := hrd.more (S' := (· < w2.heap.size)) fun b hb => hb.2
  have HV := hid (fun W (hW : Below w2.heap.size w2 W) => hrd2.keep (w' := W) fun p (hp : p.block < w2.heap.size) => hW.cell (p := p) hp)
  have HED := hid (kit_Edges v ts w2.heap.size w2 hlv hfew hrd2 (Nat.le_refl _) (HT.out.below HB2.out))
  have HNOD : Hid (idsT ts).Nodup := hid (asc_nodup9 (List.pairwise_map.2 hlv.2.2))
  have HN99 := hid (hj.not99 hl4)
  have HIAT := hid (fun q (hq : q < ts.length) => idsT_at hq)
  have HIL : Hid ((idsT ts).length = ts.length) := hid (by simp [idsT])
  obtain ⟨va, vc, hve⟩ : ∃ x y, v = .slice x ts.length y := by
   obtain ⟨tv, ⟨x, y, e, -⟩, -⟩ := hrd
   exact ⟨x, y, e⟩
  subst hve
  clear hrd hrd2 hj hlv hr2 HKT hfew
  go_wp2_with fail
  with_reducible refine HED.out.mono ?_
  rintro e w3 ⟨ev, rs, rfl, hgw, hoe, hb3⟩
  obtain ⟨ea, ec, rfl⟩ := hoe.len
  have HB3 := hid (HB2.out.trans (hb3.mono HB2.out.size))
  have HV3 := hid (fun W (hW : Below w3.heap.size w3 W) => HV.out W (hb3.trans (hW.mono hb3.size)))
  have hre := hoe.read.more (S' := (· < w3.heap.size)) fun b hb => hb.2
  have HE := hid (fun W (hW : Below w3.heap.size w3 W) => hre.keep (w' := W) fun p (hp : p.block < w3.heap.size) => hW.cell (p := p) hp)
  have hM := hgw.1
  have HFR := hid (fun W (t : Int) (hW : Below w3.heap.size w3 W) => graph_From (.slice ea rs.length ec) rs t w3.heap.size W (HE.out W hW) hW.size (by omega))
  have HTW : Hid (seenL rs (idsT ts) = 2 * rs.length) := hid (seen_twice HNOD.out hgw.2)
  have HNO : Hid (fromR rs 99 = []) := hid (from_none hgw.2 HN99.out)
  have HFL := hid (fun t => (by have h1 := fromR_len rs t rs.length; rw [List.take_length] at h1; exact h1 : (fromR rs t).length ≤ rs.length))
  have HMEM := hid (fun t x (hx : x ∈ fromR rs t) => (from_mem hx).1)
  have HALL := hid (fun t x (hx : x ∈ fromR rs t) => found_all hx)
  have HNX := hid (fun r k (hk : k < rs.length) => @found_next rs r k hk)
  have HSN := hid (fun q (hq : q < (idsT ts).length) => @seen_next rs (idsT ts) q hq)
  have HSB : Hid (∀ q, q ≤ 4 → seenL rs ((idsT ts).take q) ≤ q * rs.length) := hid (fun q hq => seenR_le HFL.out q)
  clear hgw hoe hb3 hre HED HV HT HP HB1 HB2 HNOD HN99 HA
  generalize idsT ts = ids at *
  obtain ⟨N, hN⟩ : ∃ N, N = ts.length := ⟨_, rfl⟩
  have HN := hid hN.symm
  rw [← hN] at HIAT HIL hl2 hl4
  rw [← hN]
  clear hN
  obtain ⟨M, hMe⟩ : ∃ M, M = rs.length := ⟨_, rfl⟩
  have HM := hid hMe.symm
  rw [← hMe] at HFR HTW HFL HALL HNX hM HSB
  rw [← hMe]
  clear hMe
  go_wp2_with fail
  subst hLA
  go_loopg [5, 24] N (fun K nv i wr => ∃ q : Nat, nv = .int .i64 ((seenL rs (ids.take q) : Nat) : Int) ∧ i = .int .i64 (q : Int) ∧ q + K = N ∧ Hid (Below w3.heap.size w3 wr))
  case atStart => exact ⟨0, by simp [seenL], rfl, by omega, hid (Below.refl _ _)⟩
  case round =>
   obtain ⟨q, rfl, rfl, hq, HB⟩ := hrel
   obtain ⟨wA, rfl⟩ : ∃ W, W = wr := ⟨wr, rfl⟩
   obtain ⟨gA, rfl⟩ : ∃ g, g = gk := ⟨gk, rfl⟩
   have hwA := HB.out.size
   have hsq := HSB.out q (by omega)
   have hqM : q * M ≤ 4 * M := Nat.mul_le_mul_right _ (by omega)
   by_cases hp : 0 < gA
   ·have hqN : q < N := by omega
    have hqi : (q : Int) < (N : Int) := by omega
    obtain ⟨tb0, to0, c3, aa, ac, e3, -, -, k0, k1, k2⟩ := ta_at (HV3.out wA HB.out) (q := q) (by rw [HN.out]; exact hqN)
    rw [HN.out] at e3
    obtain ⟨rfl, -, rfl⟩ := Value.slice.inj e3
    clear e3
    have HSQ := hid (HSN.out q (by rw [HIL.out]; exact hqN))
    rw [HIAT.out q hqN] at HSQ
    generalize ts.getD q Ta.z = t at *
    obtain ⟨aid, anm, acs⟩ := t
    simp only at k0 k1 k2 HSQ
    generalize acs.length = al at *
    have hax := BoxN.new wA #[.int .i64 aid, .string anm, .slice aa al ac] 51
    have HBa := hid (HB.out.alloc hwA (.cells #[.int .i64 aid, .string anm, .slice aa al ac] 51))
    have HAX := hid hax
    have a0 := hax.cell 0 rfl
    have hal := hax.lt
    clear hax
    go_wp2_with fail
    generalize wA.alloc (.cells #[.int .i64 aid, .string anm, .slice aa al ac] 51) = WA at *
    generalize wA.heap.size = ab at *
    clear k0 k1 k2 a0
    with_reducible refine (HFR.out WA aid HBa.out).mono ?_
    rintro e w5 ⟨fv, rfl, hof, hb5⟩
    obtain ⟨fa, fc, rfl⟩ := hof.len
    have HB5 := hid (HBa.out.trans (hb5.mono HBa.out.size))
    have HA5 := hid (HAX.out.below hb5 hal)
    have hrf := hof.read.more (S' := (· < w5.heap.size)) fun b hb => hb.2
    have HF := hid (fun W (hW : Below w5.heap.size w5 W) => hrf.keep (w' := W) fun p (hp : p.block < w5.heap.size) => hW.cell (p := p) hp)
    have hfl := HFL.out aid
    have HMEM1 := hid (HMEM.out aid)
    have HALL1 := hid (HALL.out aid)
    have hz5 := HB5.out.size
    clear hof hb5 hrf
    obtain ⟨fs, hfs⟩ : ∃ fs, fs = fromR rs aid := ⟨_, rfl⟩
    rw [← hfs] at HSQ HF hfl HMEM1 HALL1
    rw [← hfs]
    clear hfs
    obtain ⟨F, hF⟩ : ∃ F, F = fs.length := ⟨_, rfl⟩
    have HFLN := hid hF.symm
    rw [← hF] at HSQ hfl
    rw [← hF]
    clear hF
    obtain ⟨sq, hsqe⟩ : ∃ z, z = seenL rs (ids.take q) := ⟨_, rfl⟩
    rw [← hsqe] at HSQ hsq
    rw [← hsqe]
    clear hsqe
    generalize hLB : Code.loop _ = LB
    go_wp2_with fail
    subst hLB
    go_loopg [5, 33] F (fun K nv i wr => ∃ j : Nat, nv = .int .i64 ((sq + j : Nat) : Int) ∧ i = .int .i64 (j : Int) ∧ j + K = F ∧ Hid (Below w5.heap.size w5 wr))
    case atStart => exact ⟨0, rfl, rfl, by omega, hid (Below.refl _ _)⟩
    case round =>
     obtain ⟨j, rfl, rfl, hj, HC⟩ := hrel
     obtain ⟨wB, rfl⟩ : ∃ W, W = wr := ⟨wr, rfl⟩
     obtain ⟨gB, rfl⟩ : ∃ g, g = gk := ⟨gk, rfl⟩
     have hwB := HC.out.size
     by_cases hp2 : 0 < gB
     ·have hjF : j < F := by omega
      have hji : (j : Int) < (F : Int) := by omega
      obtain ⟨b, oo, c3, e3, -, k0, k1, k2, k3, k4, k5, k6, k7, k8, k9, k10⟩ := rl_at (HF.out wB HC.out) (q := j) (by rw [HFLN.out]; exact hjF)
      rw [HFLN.out] at e3
      obtain ⟨rfl, -, rfl⟩ := Value.slice.inj e3
      have hrm : fs.getD j Rl.z ∈ fs := getD_mem (by rw [HFLN.out]; exact hjF) _
      have hta := HMEM1.out _ hrm
      have HFA := hid (HALL1.out _ hrm)
      have HNX1 := hid (HNX.out (fs.getD j Rl.z))
      clear e3 hrm
      generalize fs.getD j Rl.z = r at *
      obtain ⟨ta, ca, tb, cb, co, oa, ob, ma, mb, la, lb⟩ := r
      simp only at k0 k1 k2 k3 k4 k5 k6 k7 k8 k9 k10 hta
      subst hta
      have hrx := BoxN.new wB #[.int .i64 ta, .int .i64 ca, .int .i64 tb, .int .i64 cb, .int .i64 co, .int .i64 oa, .int .i64 ob, .int .i64 ma, .int .i64 mb, .int .i64 la, .int .i64 lb] 44
      have HCr := hid (HC.out.alloc hwB (.cells #[.int .i64 ta, .int .i64 ca, .int .i64 tb, .int .i64 cb, .int .i64 co, .int .i64 oa, .int .i64 ob, .int .i64 ma, .int .i64 mb, .int .i64 la, .int .i64 lb] 44))
      have HRX := hid hrx
      have hrl := hrx.lt
      have hcast : ((sq + j : Nat) : Int) + 1 = ((sq + (j + 1) : Nat) : Int) := by omega
      clear hrx
      generalize hLC : Code.loop _ = LC
      go_wp2_with fail
      generalize wB.alloc (.cells #[.int .i64 ta, .int .i64 ca, .int .i64 tb, .int .i64 cb, .int .i64 co, .int .i64 oa, .int .i64 ob, .int .i64 ma, .int .i64 mb, .int .i64 la, .int .i64 lb] 44) = WB at *
      generalize wB.heap.size = rb at *
      clear k0 k1 k2 k3 k4 k5 k6 k7 k8 k9 k10
      subst hLC
      go_loopg [10, 41] M (fun K fd i wr => ∃ k : Nat, fd = .bool (foundL (rs.take k) ⟨ta, ca, tb, cb, co, oa, ob, ma, mb, la, lb⟩) ∧ i = .int .i64 (k : Int) ∧ k + K = M ∧ Hid (Below w5.heap.size w5 wr) ∧ Hid (BoxN wr rb 44 #[.int .i64 ta, .int .i64 ca, .int .i64 tb, .int .i64 cb, .int .i64 co, .int .i64 oa, .int .i64 ob, .int .i64 ma, .int .i64 mb, .int .i64 la, .int .i64 lb]))
      case atStart => exact ⟨0, rfl, rfl, by omega, HCr, HRX⟩
      case round =>
       clear HCr HRX hrl
       obtain ⟨k, rfl, rfl, hk, HD0, HRX⟩ := hrel
       obtain ⟨wC, rfl⟩ : ∃ W, W = wr := ⟨wr, rfl⟩
       have hwC := HD0.out.size
       have hrl := HRX.out.lt
       by_cases hp3 : 0 < gk
       ·have hkM : k < M := by omega
        have hki : (k : Int) < (M : Int) := by omega
        obtain ⟨b, oo, c3, e3, -, k0, k1, k2, k3, k4, k5, k6, k7, k8, k9, k10⟩ := rl_at (HE.out wC (HB5.out.trans (HD0.out.mono hz5))) (q := k) (by rw [HM.out]; exact hkM)
        rw [HM.out] at e3
        obtain ⟨rfl, -, rfl⟩ := Value.slice.inj e3
        have HN1 := hid (HNX1.out k hkM)
        clear e3
        generalize rs.getD k Rl.z = x at *
        obtain ⟨sta, sca, stb, scb, sco, soa, sob, sma, smb, sla, slb⟩ := x
        simp only at k0 k1 k2 k3 k4 k5 k6 k7 k8 k9 k10
        simp only [Rl.turn] at HN1
        have hxx := BoxN.new wC #[.int .i64 sta, .int .i64 sca, .int .i64 stb, .int .i64 scb, .int .i64 sco, .int .i64 soa, .int .i64 sob, .int .i64 sma, .int .i64 smb, .int .i64 sla, .int .i64 slb] 44
        have hsx := (Below.refl wC.heap.size wC).alloc (Nat.le_refl _) (.cells #[.int .i64 sta, .int .i64 sca, .int .i64 stb, .int .i64 scb, .int .i64 sco, .int .i64 soa, .int .i64 sob, .int .i64 sma, .int .i64 smb, .int .i64 sla, .int .i64 slb] 44)
        obtain ⟨X, hX⟩ : ∃ W, W = wC.alloc (.cells #[.int .i64 sta, .int .i64 sca, .int .i64 stb, .int .i64 scb, .int .i64 sco, .int .i64 soa, .int .i64 sob, .int .i64 sma, .int .i64 smb, .int .i64 sla, .int .i64 slb] 44) := ⟨_, rfl⟩
        go_upto_region 17 with fail
        rw [← hX]
        rw [← hX] at hxx hsx
        clear hX k0 k1 k2 k3 k4 k5 k6 k7 k8 k9 k10
        have HXX := hid hxx
        have HRR := hid (HRX.out.below hsx hrl)
        have HBX := hid (HD0.out.trans (hsx.mono hwC))
        have hbxs := HBX.out.size
        clear hxx hsx
        generalize wC.heap.size = xb at *
        have HG := hid (fun W (hW : Below X.heap.size X W) => (by
         have h1 := HXX.out.below hW HXX.out.lt
         have h2 := HRR.out.below hW HRR.out.lt
         exact ⟨h1.cell 0 rfl, h1.cell 1 rfl, h1.cell 2 rfl, h1.cell 3 rfl, h1.cell 4 rfl, h1.cell 5 rfl, h1.cell 6 rfl, h1.cell 7 rfl, h1.cell 8 rfl, h1.cell 9 rfl, h1.cell 10 rfl, h2.cell 0 rfl, h2.cell 1 rfl, h2.cell 2 rfl, h2.cell 3 rfl, h2.cell 4 rfl, h2.cell 5 rfl, h2.cell 6 rfl, h2.cell 7 rfl, h2.cell 8 rfl, h2.cell 9 rfl, h2.cell 10 rfl⟩ : W.cell? ⟨xb, 0, none⟩ = some (.int .i64 sta) ∧ W.cell? ⟨xb, 1, none⟩ = some (.int .i64 sca) ∧ W.cell? ⟨xb, 2, none⟩ = some (.int .i64 stb) ∧ W.cell? ⟨xb, 3, none⟩ = some (.int .i64 scb) ∧ W.cell? ⟨xb, 4, none⟩ = some (.int .i64 sco) ∧ W.cell? ⟨xb, 5, none⟩ = some (.int .i64 soa) ∧ W.cell? ⟨xb, 6, none⟩ = some (.int .i64 sob) ∧ W.cell? ⟨xb, 7, none⟩ = some (.int .i64 sma) ∧ W.cell? ⟨xb, 8, none⟩ = some (.int .i64 smb) ∧ W.cell? ⟨xb, 9, none⟩ = some (.int .i64 sla) ∧ W.cell? ⟨xb, 10, none⟩ = some (.int .i64 slb) ∧ W.cell? ⟨rb, 0, none⟩ = some (.int .i64 ta) ∧ W.cell? ⟨rb, 1, none⟩ = some (.int .i64 ca) ∧ W.cell? ⟨rb, 2, none⟩ = some (.int .i64 tb) ∧ W.cell? ⟨rb, 3, none⟩ = some (.int .i64 cb) ∧ W.cell? ⟨rb, 4, none⟩ = some (.int .i64 co) ∧ W.cell? ⟨rb, 5, none⟩ = some (.int .i64 oa) ∧ W.cell? ⟨rb, 6, none⟩ = some (.int .i64 ob) ∧ W.cell? ⟨rb, 7, none⟩ = some (.int .i64 ma) ∧ W.cell? ⟨rb, 8, none⟩ = some (.int .i64 mb) ∧ W.cell? ⟨rb, 9, none⟩ = some (.int .i64 la) ∧ W.cell? ⟨rb, 10, none⟩ = some (.int .i64 lb)))
        have HTU := hid (fun W => ref_Turn ⟨ta, ca, tb, cb, co, oa, ob, ma, mb, la, lb⟩ W)
        simp only [Rl.val, Rl.cs, Rl.turn] at HTU
        have HD := hid (show Below X.heap.size X X.drew from (Below.refl X.heap.size X).drew)
        have hn1 := HN1.out
        generalize foundL (rs.take k) ⟨ta, ca, tb, cb, co, oa, ob, ma, mb, la, lb⟩ = f0 at *
        obtain ⟨f1, hf1⟩ : ∃ f, f = foundL (rs.take (k + 1)) ⟨ta, ca, tb, cb, co, oa, ob, ma, mb, la, lb⟩ := ⟨_, rfl⟩
        have HFE := hid hf1.symm
        rw [← hf1] at hn1
        clear hf1
        cases f0 with
        | true =>
         rw [Bool.true_or] at hn1
         subst hn1
         refine wp_region_held_drew (S := fun W => W.cell? ⟨xb, 0, none⟩ = some (.int .i64 sta) ∧ W.cell? ⟨xb, 1, none⟩ = some (.int .i64 sca) ∧ W.cell? ⟨xb, 2, none⟩ = some (.int .i64 stb) ∧ W.cell? ⟨xb, 3, none⟩ = some (.int .i64 scb) ∧ W.cell? ⟨xb, 4, none⟩ = some (.int .i64 sco) ∧ W.cell? ⟨xb, 5, none⟩ = some (.int .i64 soa) ∧ W.cell? ⟨xb, 6, none⟩ = some (.int .i64 sob) ∧ W.cell? ⟨xb, 7, none⟩ = some (.int .i64 sma) ∧ W.cell? ⟨xb, 8, none⟩ = some (.int .i64 smb) ∧ W.cell? ⟨xb, 9, none⟩ = some (.int .i64 sla) ∧ W.cell? ⟨xb, 10, none⟩ = some (.int .i64 slb) ∧ W.cell? ⟨rb, 0, none⟩ = some (.int .i64 ta) ∧ W.cell? ⟨rb, 1, none⟩ = some (.int .i64 ca) ∧ W.cell? ⟨rb, 2, none⟩ = some (.int .i64 tb) ∧ W.cell? ⟨rb, 3, none⟩ = some (.int .i64 cb) ∧ W.cell? ⟨rb, 4, none⟩ = some (.int .i64 co) ∧ W.cell? ⟨rb, 5, none⟩ = some (.int .i64 oa) ∧ W.cell? ⟨rb, 6, none⟩ = some (.int .i64 ob) ∧ W.cell? ⟨rb, 7, none⟩ = some (.int .i64 ma) ∧ W.cell? ⟨rb, 8, none⟩ = some (.int .i64 mb) ∧ W.cell? ⟨rb, 9, none⟩ = some (.int .i64 la) ∧ W.cell? ⟨rb, 10, none⟩ = some (.int .i64 lb)) (by kernel_rfl) (HG.out _ HD.out) (fun hHeld => ?_)
         refine wpAnyH_take (i := 0) (v := ?_) (by simp only [List.getElem?_toArray, List.getElem?_cons_zero, List.getElem?_cons_succ]; rfl) (by kernel_rfl) (by kernel_rfl) (by kernel_rfl) (by intro _ _ _ h; exact h) (Or.inl ⟨by rfl, ?_⟩) (by assumption) ?_
         rotate_left
         ·(intro w' hSw; (try dsimp only at hSw); go_simp) <;> with_reducible rfl
         try simp only [Act.put, List.setIfInBounds_toArray, List.set_cons_zero, List.set_cons_succ]
         refine wpAnyH_take (i := 1) (v := ?_) (by simp only [List.getElem?_toArray, List.getElem?_cons_zero, List.getElem?_cons_succ]; rfl) (by kernel_rfl) (by kernel_rfl) (by kernel_rfl) (by intro _ _ _ h; exact h) (Or.inl ⟨by rfl, ?_⟩) (by assumption) ?_
         rotate_left
         ·(intro w' hSw; (try dsimp only at hSw); go_simp) <;> with_reducible rfl
         try simp only [Act.put, List.setIfInBounds_toArray, List.set_cons_zero, List.set_cons_succ]
         refine wpAnyH_take (i := 2) (v := undef) (by simp only [List.getElem?_toArray, List.getElem?_cons_zero, List.getElem?_cons_succ]; rfl) (by kernel_rfl) (by kernel_rfl) (by kernel_rfl) (by intro _ _ _ h; exact h) (Or.inr ⟨by rfl, rfl⟩) (by assumption) ?_
         try simp only [Act.put, List.setIfInBounds_toArray, List.set_cons_zero, List.set_cons_succ]
         refine wpAnyH_take (i := 3) (v := undef) (by simp only [List.getElem?_toArray, List.getElem?_cons_zero, List.getElem?_cons_succ]; rfl) (by kernel_rfl) (by kernel_rfl) (by kernel_rfl) (by intro _ _ _ h; exact h) (Or.inr ⟨by rfl, rfl⟩) (by assumption) ?_
         try simp only [Act.put, List.setIfInBounds_toArray, List.set_cons_zero, List.set_cons_succ]
         refine wpAnyH_take (i := 4) (v := undef) (by simp only [List.getElem?_toArray, List.getElem?_cons_zero, List.getElem?_cons_succ]; rfl) (by kernel_rfl) (by kernel_rfl) (by kernel_rfl) (by intro _ _ _ h; exact h) (Or.inr ⟨by rfl, rfl⟩) (by assumption) ?_
         try simp only [Act.put, List.setIfInBounds_toArray, List.set_cons_zero, List.set_cons_succ]
         refine wpAnyH_take (i := 5) (v := ?_) (by simp only [List.getElem?_toArray, List.getElem?_cons_zero, List.getElem?_cons_succ]; rfl) (by kernel_rfl) (by kernel_rfl) (by kernel_rfl) (by intro _ _ _ h; exact h) (Or.inl ⟨by rfl, ?_⟩) (by assumption) ?_
         rotate_left
         ·(intro w' hSw; (try dsimp only at hSw); go_simp) <;> with_reducible rfl
         try simp only [Act.put, List.setIfInBounds_toArray, List.set_cons_zero, List.set_cons_succ]
         refine wpAnyH_take (i := 6) (v := ?_) (by simp only [List.getElem?_toArray, List.getElem?_cons_zero, List.getElem?_cons_succ]; rfl) (by kernel_rfl) (by kernel_rfl) (by kernel_rfl) (by intro _ _ _ h; exact h) (Or.inl ⟨by rfl, ?_⟩) (by assumption) ?_
         rotate_left
         ·(intro w' hSw; (try dsimp only at hSw); go_simp) <;> with_reducible rfl
         try simp only [Act.put, List.setIfInBounds_toArray, List.set_cons_zero, List.set_cons_succ]
         refine wpAnyH_take (i := 7) (v := undef) (by simp only [List.getElem?_toArray, List.getElem?_cons_zero, List.getElem?_cons_succ]; rfl) (by kernel_rfl) (by kernel_rfl) (by kernel_rfl) (by intro _ _ _ h; exact h) (Or.inr ⟨by rfl, rfl⟩) (by assumption) ?_
         try simp only [Act.put, List.setIfInBounds_toArray, List.set_cons_zero, List.set_cons_succ]
         refine wpAnyH_take (i := 8) (v := undef) (by simp only [List.getElem?_toArray, List.getElem?_cons_zero, List.getElem?_cons_succ]; rfl) (by kernel_rfl) (by kernel_rfl) (by kernel_rfl) (by intro _ _ _ h; exact h) (Or.inr ⟨by rfl, rfl⟩) (by assumption) ?_
         try simp only [Act.put, List.setIfInBounds_toArray, List.set_cons_zero, List.set_cons_succ]
         refine wpAnyH_take (i := 9) (v := undef) (by simp only [List.getElem?_toArray, List.getElem?_cons_zero, List.getElem?_cons_succ]; rfl) (by kernel_rfl) (by kernel_rfl) (by kernel_rfl) (by intro _ _ _ h; exact h) (Or.inr ⟨by rfl, rfl⟩) (by assumption) ?_
         try simp only [Act.put, List.setIfInBounds_toArray, List.set_cons_zero, List.set_cons_succ]
         refine wpAnyH_take (i := 10) (v := undef) (by simp only [List.getElem?_toArray, List.getElem?_cons_zero, List.getElem?_cons_succ]; rfl) (by kernel_rfl) (by kernel_rfl) (by kernel_rfl) (by intro _ _ _ h; exact h) (Or.inr ⟨by rfl, rfl⟩) (by assumption) ?_
         try simp only [Act.put, List.setIfInBounds_toArray, List.set_cons_zero, List.set_cons_succ]
         refine wpAnyH_take (i := 11) (v := ?_) (by simp only [List.getElem?_toArray, List.getElem?_cons_zero, List.getElem?_cons_succ]; rfl) (by kernel_rfl) (by kernel_rfl) (by kernel_rfl) (by intro _ _ _ h; exact h) (Or.inl ⟨by rfl, ?_⟩) (by assumption) ?_
         rotate_left
         ·(intro w' hSw; (try dsimp only at hSw); go_simp) <;> with_reducible rfl
         try simp only [Act.put, List.setIfInBounds_toArray, List.set_cons_zero, List.set_cons_succ]
         refine wpAnyH_take (i := 12) (v := ?_) (by simp only [List.getElem?_toArray, List.getElem?_cons_zero, List.getElem?_cons_succ]; rfl) (by kernel_rfl) (by kernel_rfl) (by kernel_rfl) (by intro _ _ _ h; exact h) (Or.inl ⟨by rfl, ?_⟩) (by assumption) ?_
         rotate_left
         ·(intro w' hSw; (try dsimp only at hSw); go_simp) <;> with_reducible rfl
         try simp only [Act.put, List.setIfInBounds_toArray, List.set_cons_zero, List.set_cons_succ]
         refine wpAnyH_done (by kernel_rfl) ?_ _
         have HB7 := hid (HBX.out.trans (HD.out.mono hbxs))
         have HR7 := hid (HRR.out.below HD.out HRR.out.lt)
         clear HBX HRR HXX HG HD0 HRX
         go_wp2_with fail
         go_roundg (gk - 1)
         case rel => exact ⟨k + 1, by rw [HFE.out], by go_num, by omega, HB7, HR7⟩
         case measure => omega
        | false =>
         rw [Bool.false_or] at hn1
         cases hq1 : rlEq ⟨sta, sca, stb, scb, sco, soa, sob, sma, smb, sla, slb⟩ ⟨ta, ca, tb, cb, co, oa, ob, ma, mb, la, lb⟩ with
         | true =>
          rw [hq1, Bool.true_or] at hn1
          subst hn1
          have heq1 : ∀ W, (binOp .eql 44 (.agg #[.int .i64 sta, .int .i64 sca, .int .i64 stb, .int .i64 scb, .int .i64 sco, .int .i64 soa, .int .i64 sob, .int .i64 sma, .int .i64 smb, .int .i64 sla, .int .i64 slb]) (.agg #[.int .i64 ta, .int .i64 ca, .int .i64 tb, .int .i64 cb, .int .i64 co, .int .i64 oa, .int .i64 ob, .int .i64 ma, .int .i64 mb, .int .i64 la, .int .i64 lb])).run Tryz.prog W = .ok (.bool true) W := fun W => by rw [eql_rl, hq1]
          clear hq1
          refine wp_region_held_drew (S := fun W => W.cell? ⟨xb, 0, none⟩ = some (.int .i64 sta) ∧ W.cell? ⟨xb, 1, none⟩ = some (.int .i64 sca) ∧ W.cell? ⟨xb, 2, none⟩ = some (.int .i64 stb) ∧ W.cell? ⟨xb, 3, none⟩ = some (.int .i64 scb) ∧ W.cell? ⟨xb, 4, none⟩ = some (.int .i64 sco) ∧ W.cell? ⟨xb, 5, none⟩ = some (.int .i64 soa) ∧ W.cell? ⟨xb, 6, none⟩ = some (.int .i64 sob) ∧ W.cell? ⟨xb, 7, none⟩ = some (.int .i64 sma) ∧ W.cell? ⟨xb, 8, none⟩ = some (.int .i64 smb) ∧ W.cell? ⟨xb, 9, none⟩ = some (.int .i64 sla) ∧ W.cell? ⟨xb, 10, none⟩ = some (.int .i64 slb) ∧ W.cell? ⟨rb, 0, none⟩ = some (.int .i64 ta) ∧ W.cell? ⟨rb, 1, none⟩ = some (.int .i64 ca) ∧ W.cell? ⟨rb, 2, none⟩ = some (.int .i64 tb) ∧ W.cell? ⟨rb, 3, none⟩ = some (.int .i64 cb) ∧ W.cell? ⟨rb, 4, none⟩ = some (.int .i64 co) ∧ W.cell? ⟨rb, 5, none⟩ = some (.int .i64 oa) ∧ W.cell? ⟨rb, 6, none⟩ = some (.int .i64 ob) ∧ W.cell? ⟨rb, 7, none⟩ = some (.int .i64 ma) ∧ W.cell? ⟨rb, 8, none⟩ = some (.int .i64 mb) ∧ W.cell? ⟨rb, 9, none⟩ = some (.int .i64 la) ∧ W.cell? ⟨rb, 10, none⟩ = some (.int .i64 lb)) (by kernel_rfl) (HG.out _ HD.out) (fun hHeld => ?_)
          refine wpAnyH_take (i := 0) (v := ?_) (by simp only [List.getElem?_toArray, List.getElem?_cons_zero, List.getElem?_cons_succ]; rfl) (by kernel_rfl) (by kernel_rfl) (by kernel_rfl) (by intro _ _ _ h; exact h) (Or.inl ⟨by rfl, ?_⟩) (by assumption) ?_
          rotate_left
          ·(intro w' hSw; (try dsimp only at hSw); go_simp) <;> with_reducible rfl
          try simp only [Act.put, List.setIfInBounds_toArray, List.set_cons_zero, List.set_cons_succ]
          refine wpAnyH_take (i := 1) (v := ?_) (by simp only [List.getElem?_toArray, List.getElem?_cons_zero, List.getElem?_cons_succ]; rfl) (by kernel_rfl) (by kernel_rfl) (by kernel_rfl) (by intro _ _ _ h; exact h) (Or.inl ⟨by rfl, ?_⟩) (by assumption) ?_
          rotate_left
          ·(intro w' hSw; (try dsimp only at hSw); go_simp) <;> with_reducible rfl
          try simp only [Act.put, List.setIfInBounds_toArray, List.set_cons_zero, List.set_cons_succ]
          refine wpAnyH_take (i := 2) (v := ?_) (by simp only [List.getElem?_toArray, List.getElem?_cons_zero, List.getElem?_cons_succ]; rfl) (by kernel_rfl) (by kernel_rfl) (by kernel_rfl) (by intro _ _ _ h; exact h) (Or.inl ⟨by rfl, ?_⟩) (by assumption) ?_
          rotate_left
          ·(intro w' hSw; (try dsimp only at hSw); go_simp) <;> with_reducible rfl
          try simp only [Act.put, List.setIfInBounds_toArray, List.set_cons_zero, List.set_cons_succ]
          refine wpAnyH_take (i := 3) (v := ?_) (by simp only [List.getElem?_toArray, List.getElem?_cons_zero, List.getElem?_cons_succ]; rfl) (by kernel_rfl) (by kernel_rfl) (by kernel_rfl) (by intro _ _ _ h; exact h) (Or.inl ⟨by rfl, ?_⟩) (by assumption) ?_
          rotate_left
          ·(intro w' hSw; (try dsimp only at hSw); go_simp) <;> with_reducible rfl
          try simp only [Act.put, List.setIfInBounds_toArray, List.set_cons_zero, List.set_cons_succ]
          refine wpAnyH_take (i := 4) (v := ?_) (by simp only [List.getElem?_toArray, List.getElem?_cons_zero, List.getElem?_cons_succ]; rfl) (by kernel_rfl) (by kernel_rfl) (by kernel_rfl) (by intro _ _ _ h; exact h) (Or.inl ⟨by rfl, ?_⟩) (by assumption) ?_
          rotate_left
          ·(intro w' hSw; (try dsimp only at hSw); go_simp) <;> with_reducible rfl
          try simp only [Act.put, List.setIfInBounds_toArray, List.set_cons_zero, List.set_cons_succ]
          refine wpAnyH_take (i := 5) (v := ?_) (by simp only [List.getElem?_toArray, List.getElem?_cons_zero, List.getElem?_cons_succ]; rfl) (by kernel_rfl) (by kernel_rfl) (by kernel_rfl) (by intro _ _ _ h; exact h) (Or.inl ⟨by rfl, ?_⟩) (by assumption) ?_
          rotate_left
          ·(intro w' hSw; (try dsimp only at hSw); go_simp) <;> with_reducible rfl
          try simp only [Act.put, List.setIfInBounds_toArray, List.set_cons_zero, List.set_cons_succ]
          refine wpAnyH_take (i := 6) (v := ?_) (by simp only [List.getElem?_toArray, List.getElem?_cons_zero, List.getElem?_cons_succ]; rfl) (by kernel_rfl) (by kernel_rfl) (by kernel_rfl) (by intro _ _ _ h; exact h) (Or.inl ⟨by rfl, ?_⟩) (by assumption) ?_
          rotate_left
          ·(intro w' hSw; (try dsimp only at hSw); go_simp) <;> with_reducible rfl
          try simp only [Act.put, List.setIfInBounds_toArray, List.set_cons_zero, List.set_cons_succ]
          refine wpAnyH_take (i := 7) (v := undef) (by simp only [List.getElem?_toArray, List.getElem?_cons_zero, List.getElem?_cons_succ]; rfl) (by kernel_rfl) (by kernel_rfl) (by kernel_rfl) (by intro _ _ _ h; exact h) (Or.inr ⟨by rfl, rfl⟩) (by assumption) ?_
          try simp only [Act.put, List.setIfInBounds_toArray, List.set_cons_zero, List.set_cons_succ]
          refine wpAnyH_take (i := 8) (v := undef) (by simp only [List.getElem?_toArray, List.getElem?_cons_zero, List.getElem?_cons_succ]; rfl) (by kernel_rfl) (by kernel_rfl) (by kernel_rfl) (by intro _ _ _ h; exact h) (Or.inr ⟨by rfl, rfl⟩) (by assumption) ?_
          try simp only [Act.put, List.setIfInBounds_toArray, List.set_cons_zero, List.set_cons_succ]
          refine wpAnyH_take (i := 9) (v := undef) (by simp only [List.getElem?_toArray, List.getElem?_cons_zero, List.getElem?_cons_succ]; rfl) (by kernel_rfl) (by kernel_rfl) (by kernel_rfl) (by intro _ _ _ h; exact h) (Or.inr ⟨by rfl, rfl⟩) (by assumption) ?_
          try simp only [Act.put, List.setIfInBounds_toArray, List.set_cons_zero, List.set_cons_succ]
          refine wpAnyH_take (i := 10) (v := undef) (by simp only [List.getElem?_toArray, List.getElem?_cons_zero, List.getElem?_cons_succ]; rfl) (by kernel_rfl) (by kernel_rfl) (by kernel_rfl) (by intro _ _ _ h; exact h) (Or.inr ⟨by rfl, rfl⟩) (by assumption) ?_
          try simp only [Act.put, List.setIfInBounds_toArray, List.set_cons_zero, List.set_cons_succ]
          refine wpAnyH_take (i := 11) (v := ?_) (by simp only [List.getElem?_toArray, List.getElem?_cons_zero, List.getElem?_cons_succ]; rfl) (by kernel_rfl) (by kernel_rfl) (by kernel_rfl) (by intro _ _ _ h; exact h) (Or.inl ⟨by rfl, ?_⟩) (by assumption) ?_
          rotate_left
          ·(intro w' hSw; (try dsimp only at hSw); go_simp) <;> with_reducible rfl
          try simp only [Act.put, List.setIfInBounds_toArray, List.set_cons_zero, List.set_cons_succ]
          refine wpAnyH_take (i := 12) (v := ?_) (by simp only [List.getElem?_toArray, List.getElem?_cons_zero, List.getElem?_cons_succ]; rfl) (by kernel_rfl) (by kernel_rfl) (by kernel_rfl) (by intro _ _ _ h; exact h) (Or.inl ⟨by rfl, ?_⟩) (by assumption) ?_
          rotate_left
          ·(intro w' hSw; (try dsimp only at hSw); go_simp) <;> with_reducible rfl
          try simp only [Act.put, List.setIfInBounds_toArray, List.set_cons_zero, List.set_cons_succ]
          refine wpAnyH_done (by kernel_rfl) ?_ _
          have HB7 := hid (HBX.out.trans (HD.out.mono hbxs))
          have HR7 := hid (HRR.out.below HD.out HRR.out.lt)
          clear HBX HRR HXX HG HD0 HRX
          go_wp2_with fail
          go_roundg (gk - 1)
          case rel => exact ⟨k + 1, by rw [HFE.out], by go_num, by omega, HB7, HR7⟩
          case measure => omega
         | false =>
          rw [hq1, Bool.false_or] at hn1
          have heq1 : ∀ W, (binOp .eql 44 (.agg #[.int .i64 sta, .int .i64 sca, .int .i64 stb, .int .i64 scb, .int .i64 sco, .int .i64 soa, .int .i64 sob, .int .i64 sma, .int .i64 smb, .int .i64 sla, .int .i64 slb]) (.agg #[.int .i64 ta, .int .i64 ca, .int .i64 tb, .int .i64 cb, .int .i64 co, .int .i64 oa, .int .i64 ob, .int .i64 ma, .int .i64 mb, .int .i64 la, .int .i64 lb])).run Tryz.prog W = .ok (.bool false) W := fun W => by rw [eql_rl, hq1]
          have heq2 : ∀ W, (binOp .eql 44 (.agg #[.int .i64 sta, .int .i64 sca, .int .i64 stb, .int .i64 scb, .int .i64 sco, .int .i64 soa, .int .i64 sob, .int .i64 sma, .int .i64 smb, .int .i64 sla, .int .i64 slb]) (.agg #[.int .i64 tb, .int .i64 cb, .int .i64 ta, .int .i64 ca, .int .i64 co, .int .i64 ob, .int .i64 oa, .int .i64 mb, .int .i64 ma, .int .i64 lb, .int .i64 la])).run Tryz.prog W = .ok (.bool f1) W := fun W => by rw [eql_rl, hn1]
          clear hq1 hn1
          refine wp_region_held_drew (S := fun W => W.cell? ⟨xb, 0, none⟩ = some (.int .i64 sta) ∧ W.cell? ⟨xb, 1, none⟩ = some (.int .i64 sca) ∧ W.cell? ⟨xb, 2, none⟩ = some (.int .i64 stb) ∧ W.cell? ⟨xb, 3, none⟩ = some (.int .i64 scb) ∧ W.cell? ⟨xb, 4, none⟩ = some (.int .i64 sco) ∧ W.cell? ⟨xb, 5, none⟩ = some (.int .i64 soa) ∧ W.cell? ⟨xb, 6, none⟩ = some (.int .i64 sob) ∧ W.cell? ⟨xb, 7, none⟩ = some (.int .i64 sma) ∧ W.cell? ⟨xb, 8, none⟩ = some (.int .i64 smb) ∧ W.cell? ⟨xb, 9, none⟩ = some (.int .i64 sla) ∧ W.cell? ⟨xb, 10, none⟩ = some (.int .i64 slb) ∧ W.cell? ⟨rb, 0, none⟩ = some (.int .i64 ta) ∧ W.cell? ⟨rb, 1, none⟩ = some (.int .i64 ca) ∧ W.cell? ⟨rb, 2, none⟩ = some (.int .i64 tb) ∧ W.cell? ⟨rb, 3, none⟩ = some (.int .i64 cb) ∧ W.cell? ⟨rb, 4, none⟩ = some (.int .i64 co) ∧ W.cell? ⟨rb, 5, none⟩ = some (.int .i64 oa) ∧ W.cell? ⟨rb, 6, none⟩ = some (.int .i64 ob) ∧ W.cell? ⟨rb, 7, none⟩ = some (.int .i64 ma) ∧ W.cell? ⟨rb, 8, none⟩ = some (.int .i64 mb) ∧ W.cell? ⟨rb, 9, none⟩ = some (.int .i64 la) ∧ W.cell? ⟨rb, 10, none⟩ = some (.int .i64 lb)) (by kernel_rfl) (HG.out _ HD.out) (fun hHeld => ?_)
          refine wpAnyH_take (i := 0) (v := ?_) (by simp only [List.getElem?_toArray, List.getElem?_cons_zero, List.getElem?_cons_succ]; rfl) (by kernel_rfl) (by kernel_rfl) (by kernel_rfl) (by intro _ _ _ h; exact h) (Or.inl ⟨by rfl, ?_⟩) (by assumption) ?_
          rotate_left
          ·(intro w' hSw; (try dsimp only at hSw); go_simp) <;> with_reducible rfl
          try simp only [Act.put, List.setIfInBounds_toArray, List.set_cons_zero, List.set_cons_succ]
          refine wpAnyH_take (i := 1) (v := ?_) (by simp only [List.getElem?_toArray, List.getElem?_cons_zero, List.getElem?_cons_succ]; rfl) (by kernel_rfl) (by kernel_rfl) (by kernel_rfl) (by intro _ _ _ h; exact h) (Or.inl ⟨by rfl, ?_⟩) (by assumption) ?_
          rotate_left
          ·(intro w' hSw; (try dsimp only at hSw); go_simp) <;> with_reducible rfl
          try simp only [Act.put, List.setIfInBounds_toArray, List.set_cons_zero, List.set_cons_succ]
          refine wpAnyH_take (i := 2) (v := ?_) (by simp only [List.getElem?_toArray, List.getElem?_cons_zero, List.getElem?_cons_succ]; rfl) (by kernel_rfl) (by kernel_rfl) (by kernel_rfl) (by intro _ _ _ h; exact h) (Or.inl ⟨by rfl, ?_⟩) (by assumption) ?_
          rotate_left
          ·(intro w' hSw; (try dsimp only at hSw); go_simp) <;> with_reducible rfl
          try simp only [Act.put, List.setIfInBounds_toArray, List.set_cons_zero, List.set_cons_succ]
          refine wpAnyH_take (i := 3) (v := ?_) (by simp only [List.getElem?_toArray, List.getElem?_cons_zero, List.getElem?_cons_succ]; rfl) (by kernel_rfl) (by kernel_rfl) (by kernel_rfl) (by intro _ _ _ h; exact h) (Or.inl ⟨by rfl, ?_⟩) (by assumption) ?_
          rotate_left
          ·(intro w' hSw; (try dsimp only at hSw); go_simp) <;> with_reducible rfl
          try simp only [Act.put, List.setIfInBounds_toArray, List.set_cons_zero, List.set_cons_succ]
          refine wpAnyH_take (i := 4) (v := ?_) (by simp only [List.getElem?_toArray, List.getElem?_cons_zero, List.getElem?_cons_succ]; rfl) (by kernel_rfl) (by kernel_rfl) (by kernel_rfl) (by intro _ _ _ h; exact h) (Or.inl ⟨by rfl, ?_⟩) (by assumption) ?_
          rotate_left
          ·(intro w' hSw; (try dsimp only at hSw); go_simp) <;> with_reducible rfl
          try simp only [Act.put, List.setIfInBounds_toArray, List.set_cons_zero, List.set_cons_succ]
          refine wpAnyH_take (i := 5) (v := ?_) (by simp only [List.getElem?_toArray, List.getElem?_cons_zero, List.getElem?_cons_succ]; rfl) (by kernel_rfl) (by kernel_rfl) (by kernel_rfl) (by intro _ _ _ h; exact h) (Or.inl ⟨by rfl, ?_⟩) (by assumption) ?_
          rotate_left
          ·(intro w' hSw; (try dsimp only at hSw); go_simp) <;> with_reducible rfl
          try simp only [Act.put, List.setIfInBounds_toArray, List.set_cons_zero, List.set_cons_succ]
          refine wpAnyH_take (i := 6) (v := ?_) (by simp only [List.getElem?_toArray, List.getElem?_cons_zero, List.getElem?_cons_succ]; rfl) (by kernel_rfl) (by kernel_rfl) (by kernel_rfl) (by intro _ _ _ h; exact h) (Or.inl ⟨by rfl, ?_⟩) (by assumption) ?_
          rotate_left
          ·(intro w' hSw; (try dsimp only at hSw); go_simp) <;> with_reducible rfl
          try simp only [Act.put, List.setIfInBounds_toArray, List.set_cons_zero, List.set_cons_succ]
          refine wpAnyH_take (i := 7) (v := ?_) (by simp only [List.getElem?_toArray, List.getElem?_cons_zero, List.getElem?_cons_succ]; rfl) (by kernel_rfl) (by kernel_rfl) (by kernel_rfl) (by intro _ _ _ h; exact h) (Or.inl ⟨by rfl, ?_⟩) (by assumption) ?_
          rotate_left
          ·(intro w' hSw; (try dsimp only at hSw); go_simp) <;> with_reducible rfl
          try simp only [Act.put, List.setIfInBounds_toArray, List.set_cons_zero, List.set_cons_succ]
          refine wpAnyH_take (i := 8) (v := ?_) (by simp only [List.getElem?_toArray, List.getElem?_cons_zero, List.getElem?_cons_succ]; rfl) (by kernel_rfl) (by kernel_rfl) (by kernel_rfl) (by intro _ _ _ h; exact h) (Or.inl ⟨by rfl, ?_⟩) (by assumption) ?_
          rotate_left
          ·(intro w' hSw; (try dsimp only at hSw); go_simp) <;> with_reducible rfl
          try simp only [Act.put, List.setIfInBounds_toArray, List.set_cons_zero, List.set_cons_succ]
          refine wpAnyH_ready (rs := [9]) (by kernel_rfl) (by simp) ?_
          refine AllReadyH.cons (by simp only [List.getElem?_toArray, List.getElem?_cons_zero, List.getElem?_cons_succ]; rfl) (fun K hK => ?_) AllReadyH.nil
          go_simp
          go_at_call 17
          go_must ((with_reducible refine (HTU.out _).mono ?_); rintro e w8 ⟨rfl, hb8⟩; have HD8 := hid (Fr.belowT HD.out hb8); clear hb8)
          (try go_wp2_with fail)
          refine hK.out _ _ (HG.out _ HD8.out) (fun hHeld => ?_)
          clear hK K
          try simp only [Act.put, List.setIfInBounds_toArray, List.set_cons_zero, List.set_cons_succ]
          refine wpAnyH_take (i := 10) (v := ?_) (by simp only [List.getElem?_toArray, List.getElem?_cons_zero, List.getElem?_cons_succ]; rfl) (by kernel_rfl) (by kernel_rfl) (by kernel_rfl) (by intro _ _ _ h; exact h) (Or.inl ⟨by rfl, ?_⟩) (by assumption) ?_
          rotate_left
          ·(intro w' hSw; (try dsimp only at hSw); go_simp) <;> with_reducible rfl
          try simp only [Act.put, List.setIfInBounds_toArray, List.set_cons_zero, List.set_cons_succ]
          refine wpAnyH_take (i := 11) (v := ?_) (by simp only [List.getElem?_toArray, List.getElem?_cons_zero, List.getElem?_cons_succ]; rfl) (by kernel_rfl) (by kernel_rfl) (by kernel_rfl) (by intro _ _ _ h; exact h) (Or.inl ⟨by rfl, ?_⟩) (by assumption) ?_
          rotate_left
          ·(intro w' hSw; (try dsimp only at hSw); go_simp) <;> with_reducible rfl
          try simp only [Act.put, List.setIfInBounds_toArray, List.set_cons_zero, List.set_cons_succ]
          refine wpAnyH_take (i := 12) (v := ?_) (by simp only [List.getElem?_toArray, List.getElem?_cons_zero, List.getElem?_cons_succ]; rfl) (by kernel_rfl) (by kernel_rfl) (by kernel_rfl) (by intro _ _ _ h; exact h) (Or.inl ⟨by rfl, ?_⟩) (by assumption) ?_
          rotate_left
          ·(intro w' hSw; (try dsimp only at hSw); go_simp) <;> with_reducible rfl
          try simp only [Act.put, List.setIfInBounds_toArray, List.set_cons_zero, List.set_cons_succ]
          refine wpAnyH_done (by kernel_rfl) ?_ _
          have HB7 := hid (HBX.out.trans (HD8.out.mono hbxs))
          have HR7 := hid (HRR.out.below HD8.out HRR.out.lt)
          clear HBX HRR HXX HG HD0 HRX
          go_wp2_with fail
          go_roundg (gk - 1)
          case rel => exact ⟨k + 1, by rw [HFE.out], by go_num, by omega, HB7, HR7⟩
          case measure => omega
       ·obtain rfl : gk = 0 := by omega
        obtain rfl : k = M := by omega
        rw [HFA.out]
        have HA6 := hid (HA5.out.below HD0.out HA5.out.lt)
        have r0 := HRX.out.cell 0 rfl
        have a0 := HA6.out.cell 0 rfl
        go_wp2_with fail
        go_roundg (gB - 1)
        case rel => exact ⟨j + 1, by rw [← hcast] <;> go_num, by go_num, by omega, HD0⟩
        case measure => omega
     ·obtain rfl : gB = 0 := by omega
      obtain rfl : j = F := by omega
      go_wp2_with fail
      go_roundg (gA - 1)
      case rel => exact ⟨q + 1, by rw [HSQ.out], by go_num, by omega, hid (HB5.out.trans (HC.out.mono hz5))⟩
      case measure => omega
   ·obtain rfl : gA = 0 := by omega
    obtain rfl : q = N := by omega
    have HF99 := hid (HFR.out wA 99 HB.out)
    rw [HNO.out] at HF99
    have hse : ((seenL rs (ids.take q) : Nat) : Int) = 2 * (M : Int) := by
     rw [show ids.take q = ids by rw [← HIL.out, List.take_length], HTW.out]
     omega
    rw [hse]
    have hmm : ((2 * (M : Int)) == (2 * (M : Int))) = true := by simp
    have HBW := hid (HB3.out.trans (HB.out.mono HB3.out.size))
    go_wp2_with fail
    with_reducible refine HF99.out.mono ?_
    rintro e w8 ⟨u8, rfl, ho8, hb8⟩
    obtain ⟨ua8, uc8, rfl⟩ := ho8.len
    have HB8 := hid (HBW.out.trans (hb8.mono HBW.out.size))
    clear ho8 hb8
    go_wp2_with fail
    with_reducible refine (HAW.out w8 HB8.out).mono ?_
    rintro e w9 ⟨rfl, hb9⟩
    have HB9 := hid (HB8.out.trans (hb9.mono HB8.out.size))
    clear hb9
    go_wp2
    go_ret
    exact ⟨rfl, HB9.out⟩
 ·have HLI := hid (kit_Light a n c w hnm)
  rw [decide_eq_false hg] at HLI
  go_enter Tryz.func4, Tryz.ntmps4
  go_wp2_with fail
  with_reducible refine HLI.out.mono ?_
  rintro e w0 ⟨rfl, rfl⟩
  clear HLI
  go_wp2_with fail
  with_reducible refine (HAW.out w (Below.refl _ _)).mono ?_
  rintro e w1 ⟨rfl, hb1⟩
  have HB1 := hid hb1
  clear hb1
  go_wp2
  go_ret
  exact ⟨rfl, HB1.out⟩
end Go.Proofs.YtaajpliifdlokaaGreatDoor
