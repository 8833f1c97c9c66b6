/- The walk of GraphGroups. A slice of bytes that came in. No program in sight. Go's own tables where the call begins; how a list of texts is opened. -/
import Derived.Deep.Cut
import Derived.Deep.CutRange
import Derived.Deep.RegionHeld3
import Derived.Test.YtaajpliifdlokaaGreatDoorGGrbj
import Derived.Test.YtaajpliifdlokaaGreatDoorGGrbk
import Derived.Test.YtaajpliifdlokaaGreatDoorGGrbb
import Derived.Test.YtaajpliifdlokaaGreatDoorGGraf
import Derived.Test.YtaajpliifdlokaaGreatDoorTie
import Derived.Test.YtaajpliifdlokaaGreatDoorCards
import Derived.Carry
import Derived.SizedLaws
import Derived.ProofKit
import Derived.OpenShut
import Derived.ChangeSlices
import Derived.SliceStrings
import Derived.LaidLaws
import Derived.LaidMore
import Derived.Lib.LaidU8T
import Derived.PinnedBridge
import Derived.SevenTiedAt
import Derived.Test.YtaajpliifdlokaaGreatDoorGGram
set_option linter.unusedVariables false
set_option linter.unusedSimpArgs false
namespace Go.Proofs.YtaajpliifdlokaaGreatDoor
open Go.RowKit
theorem part4 (P : Nat) (h : P < 4) : Fr.Sml (P / Nat.gcd P 3) (3 / Nat.gcd P 3) ∧ P / Nat.gcd P 3 ≤ 3 / Nat.gcd P 3 := by
  refine ⟨Fr.sml_of (by omega) (by omega) (by omega), Nat.div_le_div_right (by omega)⟩
theorem few_three {ts : List Ta} (h : ∀ t ∈ ts, t.cols.length ≤ 3) (hl : ts.length ≤ 5) : FewT ts := ⟨by omega, fun t ht => by have := h t ht; omega⟩
theorem rels_few5 {ts : List Ta} (h : FewT ts) : (relsL ts).length ≤ 1000000 := by
  have h1 := takeA_len h ts.length
  rw [List.take_length] at h1
  exact Nat.le_trans h1 (by omega)
set_option maxRecDepth 100000 in
theorem ref_Less03 (ta ca tb cb : Int) (w : World) (h : ta < tb) : Calls Tryz.prog 27 #[.agg #[.int .i64 ta, .int .i64 ca], .agg #[.int .i64 tb, .int .i64 cb]] w (Ret w (.bool true)) := by
  have hgd : decide (ta < tb) = true := decide_eq_true h
  have hb := ((Below.refl w.heap.size w).alloc (Nat.le_refl _) (.cells #[.int .i64 ta, .int .i64 ca] 42)).alloc (by simp) (.cells #[.int .i64 tb, .int .i64 cb] 42)
  have HB := hid hb
  clear hb
  go_enter Tryz.func27, Tryz.ntmps27
  go_wp2_with fail
  go_ret
  exact ⟨rfl, HB.out⟩
set_option maxRecDepth 100000 in
set_option maxHeartbeats 8000000 in
theorem law30_groups (a : Option Addr) (n c : Nat) (w : World) (hA : RdI w w.heap.size a n c) (hT : Tabs w) (hP : Pow w) (ho : Fr.OneAt w) :
  Calls Tryz.prog 6 #[.slice a n c] w (Ret w (.bool true)) := by
 have HA := hid hA
 have HT := hid hT
 have HP := hid hP
 have HO := hid ho
 have hnm : n ≤ maxLen := Nat.le_trans hA.1 hA.2.1
 have HAW := hid (fun W (hW : Below w.heap.size w W) => law30_awake W (hT.below hW) (ho.below hW))
 clear hA hT hP ho
 by_cases hg : n ≤ 500
 ·have HLI := hid (kit_Light a n c w hnm)
  rw [decide_eq_true hg] at HLI
  go_enter Tryz.func6, Tryz.ntmps6
  generalize hLA : Code.loop _ = LA
  go_wp2_with fail
  with_reducible refine HLI.out.mono ?_
  rintro e w0 ⟨rfl, rfl⟩
  clear HLI
  go_wp2_with fail
  with_reducible refine (kit_Roll a n c _ HA.out hg HP.out).mono ?_
  rintro e w1 ⟨rfl, hd1, hb1⟩
  have HB1 := hid hb1
  have hz1 := hd1.lt
  have HKT : Hid (Calls Tryz.prog 20 #[.pointer (some ⟨w.heap.size, 0, none⟩), .int .i64 5] w1 (KLis3 w1 w.heap.size 5)) := hid (kit_Tables3 w.heap.size 5 w1 hd1 ⟨w, HT.out, Nat.le_refl _, hb1⟩ (by omega))
  clear hd1 hb1
  go_wp2_with fail
  with_reducible refine HKT.out.mono ?_
  rintro e w2 ⟨ts, v, rfl, hrd, hl1, hl5, hlv, hf3, hd2, hr2⟩
  have HLV := hid hlv
  have hN5 : ts.length ≤ 5 := by omega
  have HFEW := hid (few_three hf3 hN5)
  have hz2 := hr2.size
  have HB2 := hid (HB1.out.trans (hr2.below (B' := w.heap.size) (Nat.le_refl _) (by omega)))
  have HKN := hid (kit_Next w.heap.size 4 w2 hd2 (by omega) (by omega))
  have HRD := hid hrd
  clear hrd hlv hf3 hr2 HKT hd2
  go_wp2_with fail
  with_reducible refine HKN.out.mono ?_
  rintro e w3 ⟨m, rfl, hm4, -, hr3, hs3⟩
  have hm4' : m < 4 := by omega
  have HB3 := hid (HB2.out.trans (hr3.below (B' := w.heap.size) (by omega) (by omega)))
  have hrd3 := (HRD.out.keep (w' := w3) fun p hp => hr3.cell (p := p) hp.2 (by have := hp.1; omega)).more (S' := (· < w3.heap.size)) fun b hb => by have := hb.2; omega
  have HV := hid (fun W (hW : Below w3.heap.size w3 W) => hrd3.keep (w' := W) fun p (hp : p.block < w3.heap.size) => hW.cell (p := p) hp)
  have HP1 : Hid (∀ W, Calls Tryz.prog 12 #[.int .i64 (m : Int), .int .i64 3] W (Fr.GivesF W false (m / Nat.gcd m 3) (3 / Nat.gcd m 3))) := hid (fun W => Fr.ref_Part m 3 W (by omega) (by omega) (by omega))
  obtain ⟨hs1, hp1⟩ := part4 m hm4'
  generalize m / Nat.gcd m 3 = p1 at *
  generalize 3 / Nat.gcd m 3 = q1 at *
  have HS1 := hid hs1
  clear hs1 hr3 hrd3 HRD HKN HB2
  go_wp2_with fail
  with_reducible refine (HP1.out w3).mono ?_
  rintro e w4 ⟨a1, c1, b1, d1, rfl, hN1, hb4⟩
  have HB34 := hid hb4
  have HBD := hid (graph_Build v _ ts p1 q1 w3.heap.size w4 HLV.out HFEW.out (HV.out w4 hb4) hb4.size (hN1.rd false) HS1.out hp1 (HT.out.below (HB3.out.trans (hb4.mono HB3.out.size))) (HO.out.below (HB3.out.trans (hb4.mono HB3.out.size))))
  clear hN1 hb4 HP1
  go_wp2_with fail
  with_reducible refine HBD.out.mono ?_
  rintro e w5 ⟨xv, rs, rfl, hpx, hwx, hox, hb5⟩
  obtain ⟨xa, xc, rfl⟩ := hox.len
  have HB35 := hid (HB34.out.trans (hb5.mono HB34.out.size))
  have hrx0 := hox.read.more (S' := (· < w5.heap.size)) fun b hb => hb.2
  have hM6 : rs.length ≤ 1000000 := by
   have h1 := hpx.length_eq
   have h2 := Nat.le_trans (filt_le (enL p1 q1) (relsL ts)) (rels_few5 HFEW.out)
   unfold goodL at h1
   omega
  have HGF := hid (fun r (hr : r ∈ rs) => good_form HLV.out hpx hr)
  have HGR := hid (graph_Groups v _ ts rs w5.heap.size w5 HLV.out ((HV.out w5 HB35.out).more fun b (hb : b < w3.heap.size) => Nat.lt_of_lt_of_le hb HB35.out.size) hrx0 (Nat.le_refl _) (fun r hr => ⟨(HGF.out r hr).1, (HGF.out r hr).2.1⟩) hM6)
  have HASC : Hid ((idsT ts).Pairwise fun a b => a < b) := hid (List.pairwise_map.2 HLV.out.2.2)
  have HW64 : Hid (∀ z ∈ idsT ts, W64 z) := hid (fun z hz => by
   obtain ⟨t, ht, rfl⟩ := List.mem_map.1 hz
   have h1 := (HLV.out.2.1 t ht).1
   have h2 := (HLV.out.2.1 t ht).2.1
   exact ⟨by omega, by omega⟩)
  have HIL : Hid ((idsT ts).length = ts.length) := hid (by simp [idsT])
  have HRR := hid hrx0
  have HB5 := hid (HB3.out.trans (HB35.out.mono HB3.out.size))
  obtain ⟨va, vc, hve⟩ : ∃ x y, v = .slice x ts.length y := by
   obtain ⟨tv, ⟨x, y, e, -⟩, -⟩ := HV.out w3 (Below.refl _ _)
   exact ⟨x, y, e⟩
  subst hve
  clear hpx hwx hox hb5 hrx0 HBD HV HB34 HB35 HFEW HS1 hp1 HT HP HO
  go_wp2_with fail
  with_reducible refine HGR.out.mono ?_
  rintro e w6 ⟨g, gv, vs, rfl, ⟨hgo, hge⟩, hgr, hb6⟩
  have HGO := hid hgo
  have HGE := hid hge
  have HB6 := hid (HB5.out.trans (hb6.mono HB5.out.size))
  have HRL := hid (fun W (hW : Below w6.heap.size w6 W) => HRR.out.keep (w' := W) fun p (hp : p.block < w5.heap.size) => (hW.cell (p := p) (Nat.lt_of_lt_of_le hp hb6.size)).trans (hb6.cell (p := p) hp))
  have HG := hid (fun W (hW : Below w6.heap.size w6 W) => hgr.later hW)
  have HPOS := hid (fun i (hi : i < (groupsL g (idsT ts)).length) => grp_pos hi)
  have HLEN : Hid (∀ i, ((groupsL g (idsT ts)).getD i []).length ≤ (idsT ts).length) := hid (fun i => group_elem_len g (idsT ts) i)
  have HGLE : Hid ((groupsL g (idsT ts)).length ≤ (idsT ts).length) := hid (by rw [groups_len]; exact heads_le g (idsT ts))
  have HGM := hid (fun i (hi : i < (groupsL g (idsT ts)).length) x (hx : x ∈ (groupsL g (idsT ts)).getD i []) => grp_mem hi hx)
  have HSAM := hid (fun i (hi : i < (groupsL g (idsT ts)).length) x y (hx : x ∈ (groupsL g (idsT ts)).getD i []) (hy : y ∈ (groupsL g (idsT ts)).getD i []) => grp_same hi hx hy)
  have HRAS := hid (fun i (hi : i < (groupsL g (idsT ts)).length) => grp_asc HASC.out hi)
  have HNEW := hid (fun i k (hi : i < (groupsL g (idsT ts)).length) (hk : k < ((groupsL g (idsT ts)).getD i []).length) => placed_new HASC.out hi hk)
  have HPN : Hid (∀ i k, k < ((groupsL g (idsT ts)).getD i []).length → placedL (groupsL g (idsT ts)) i (k + 1) = placedL (groupsL g (idsT ts)) i k ++ [((groupsL g (idsT ts)).getD i []).getD k 0]) := hid (fun i k hk => placed_next hk)
  have HPR : Hid (∀ i, i < (groupsL g (idsT ts)).length → placedL (groupsL g (idsT ts)) (i + 1) 0 = placedL (groupsL g (idsT ts)) i ((groupsL g (idsT ts)).getD i []).length) := hid (fun i hi => placed_row hi)
  have HPA : Hid (∀ z, z ∈ placedL (groupsL g (idsT ts)) (groupsL g (idsT ts)).length 0 ↔ z ∈ idsT ts) := hid (fun z => ⟨placed_sub (Nat.le_refl _), placed_all g _⟩)
  have HPL : Hid ((placedL (groupsL g (idsT ts)) (groupsL g (idsT ts)).length 0).length = ts.length) := hid (by rw [placed_len HASC.out, HIL.out])
  have HP0 : Hid (placedL (groupsL g (idsT ts)) 0 0 = []) := hid (by simp [placedL])
  have HLP : Hid (∀ i k, i < (groupsL g (idsT ts)).length → k ≤ ((groupsL g (idsT ts)).getD i []).length → (placedL (groupsL g (idsT ts)) i k).length ≤ ts.length) := hid (fun i k hi hk => by
   have h1 := (placed_nodup HASC.out i k hi hk).1
   rw [← HIL.out]
   exact nodup_leZ h1 fun z hz => placed_sub (Nat.le_of_lt hi) hz)
  have HNOD := hid (asc_nodup HASC.out)
  have HCLO := hid (fun (S : Int → Bool) x y (hx : x ∈ idsT ts) (hy : y ∈ idsT ts) (hxy : g x = g y) (hS : ∀ r ∈ rs, S r.ta = S r.tb) (h0 : S x = true) => closed_group HGO.out hx hy hxy hS h0)
  have HHO : Hid (∀ x ∈ idsT ts, ∀ y ∈ idsT ts, g x = g y → hOf g (idsT ts) x = hOf g (idsT ts) y) := hid (fun x _ y _ e => by unfold hOf; rw [e])
  obtain ⟨Ga, Gc, rfl⟩ : ∃ x y, gv = .slice x (groupsL g (idsT ts)).length y := own_slice hgr.row
  clear hgo hge hgr hb6 HGR HRR HB5 HB3
  generalize groupsL g (idsT ts) = out at *
  generalize hOf g (idsT ts) = h at *
  generalize idsT ts = ids at *
  obtain ⟨N, hN⟩ : ∃ N, N = ts.length := ⟨_, rfl⟩
  rw [← hN] at HIL HPL HLP hl1 hl5 hN5
  rw [← hN]
  clear hN
  obtain ⟨M, hM⟩ : ∃ M, M = rs.length := ⟨_, rfl⟩
  have HM := hid hM.symm
  rw [← hM] at hM6
  rw [← hM]
  clear hM
  obtain ⟨L, hL⟩ : ∃ L, L = out.length := ⟨_, rfl⟩
  have HL := hid hL.symm
  have hL5 : L ≤ 5 := by have h1 := HGLE.out; have h2 := HIL.out; omega
  rw [← hL] at HPOS HGM HSAM HRAS HNEW HPR HPA HPL HLP
  rw [← hL]
  clear hL
  have HMM := hid (MapZ.made w6)
  have HBX := hid ((Below.refl w6.heap.size w6).alloc (Nat.le_refl _) (.map #[] 0))
  have hmm := @run_makeMap Tryz.prog
  go_wp2_with fail
  generalize w6.alloc (.map #[] 0) = X at *
  subst hLA
  go_loopg [47] L (fun K i wr => ∃ q : Nat, i = .int .i64 (q : Int) ∧ q + K = L ∧ Hid (Below w6.heap.size w6 wr) ∧ Hid (MapZ wr w6.heap.size (placedL out q 0).length (gmZ (placedL out q 0) h)))
  case atStart => exact ⟨0, rfl, by omega, HBX, hid (by rw [HP0.out]; exact HMM.out.congr fun z => by simp [gmZ])⟩
  case round =>
   clear HBX HMM hmm
   obtain ⟨q, rfl, hq, HB, HMP⟩ := hrel
   by_cases hp : 0 < gk
   ·have hqL : q < L := by omega
    have hqi : (q : Int) < (L : Int) := by omega
    obtain ⟨G, c3, e3, k0⟩ := gr_at (HG.out wr HB.out) (i := q) (by rw [HL.out]; exact hqL)
    obtain ⟨rb, rc, e4, -⟩ := gr_row (HG.out wr HB.out) (i := q) (by rw [HL.out]; exact hqL) (HPOS.out q hqL)
    have hrl := HLEN.out q
    rw [HIL.out] at hrl
    rw [HL.out] at e3
    obtain ⟨rfl, -, rfl⟩ := Value.slice.inj e3
    rw [e4] at k0
    have HRC := hid (fun W (hW : Below w6.heap.size w6 W) k (hk : k < (out.getD q []).length) => (by
     obtain ⟨b', c', e5, h5⟩ := gr_row (HG.out W hW) (i := q) (by rw [HL.out]; exact hqL) (HPOS.out q hqL)
     rw [e4] at e5
     have e6 := (Value.slice.inj e5).1
     injection e6 with e6
     injection e6 with e6
     rw [e6]
     exact h5 k hk : W.cell? ⟨rb, k, none⟩ = some (.int .i64 ((out.getD q []).getD k 0))))
    have HGM1 := hid (HGM.out q hqL)
    have HNEW1 := hid (fun k hk => HNEW.out q k hqL hk)
    have HPN1 := hid (HPN.out q)
    have HPR1 := hid (HPR.out q hqL)
    have HLP1 := hid (fun k hk => HLP.out q k hqL hk)
    have HRAS1 := hid (HRAS.out q hqL)
    clear e3 e4
    generalize out.getD q [] = row at *
    obtain ⟨R, hR⟩ : ∃ R, R = row.length := ⟨_, rfl⟩
    have HR := hid hR.symm
    rw [← hR] at HRC HNEW1 HPN1 HPR1 HLP1 hrl k0
    clear hR
    go_wp2_with fail
    go_loopg [54] R (fun K i wr => ∃ p : Nat, i = .int .i64 (p : Int) ∧ p + K = R ∧ Hid (Below w6.heap.size w6 wr) ∧ Hid (MapZ wr w6.heap.size (placedL out q p).length (gmZ (placedL out q p) h)))
    case atStart => exact ⟨0, rfl, by omega, HB, HMP⟩
    case round =>
     clear HB HMP k0
     obtain ⟨p, rfl, hpp, HB, HMP⟩ := hrel
     have hwz := HB.out.size
     have hml := HMP.out.lt
     by_cases hp2 : 0 < gk
     ·have hpR : p < R := by omega
      have hpi : (p : Int) < (R : Int) := by omega
      have k1 := HRC.out wr HB.out p hpR
      have hxm : row.getD p 0 ∈ row := getD_mem (by rw [HR.out]; exact hpR) 0
      obtain ⟨hxi, hxh⟩ := HGM1.out _ hxm
      have hxn := HNEW1.out p hpR
      have HWX := hid (HW64.out _ hxi)
      have HPN2 := hid (HPN1.out p hpR)
      have hll := HLP1.out p (Nat.le_of_lt hpR)
      have hlk := HMP.out.look_ok HWX.out
      rw [show gmZ (placedL out q p) h (row.getD p 0) = none from if_neg hxn] at hlk
      simp only [Option.getD_none, Option.isSome_none] at hlk
      obtain ⟨w10, hrun, hm10, hg10⟩ := HMP.out.update HWX.out (v := (q : Int)) ⟨by omega, by omega⟩ (by unfold maxLen; omega)
      rw [show gmZ (placedL out q p) h (row.getD p 0) = none from if_neg hxn] at hm10
      simp only [Option.isSome_none, Bool.false_eq_true, if_false] at hm10
      have HB10 := hid (HB.out.grown hg10 hwz (fun k hk => by have h1 := Option.some.inj hk; omega))
      have HM10 : Hid (MapZ w10 w6.heap.size (placedL out q (p + 1)).length (gmZ (placedL out q (p + 1)) h)) := hid (by
       rw [HPN2.out, List.length_append, List.length_singleton]
       refine hm10.congr fun z => ?_
       rw [← hxh]
       exact gmZ_snoc2 z)
      have HLT : Hid (∀ p', p = p' + 1 → row.getD p' 0 < row.getD p 0) := hid (fun p' e => by
       subst e
       have h1 : p' + 1 < row.length := by rw [HR.out]; exact hpR
       have h2 := List.pairwise_iff_getElem.1 HRAS1.out p' (p' + 1) (by omega) h1 (by omega)
       simpa [List.getD, h1, show p' < row.length from by omega] using h2)
      have HK1 := hid (fun p' (e : p = p' + 1) => HRC.out wr HB.out p' (by omega))
      clear hxm hxi hxh hxn hm10 hg10
      generalize row.getD p 0 = x at *
      by_cases hp0 : p = 0
      ·subst hp0
       go_wp2_with fail
       go_roundg (gk - 1)
       case rel => exact ⟨0 + 1, by go_num, by omega, HB10, HM10⟩
       case measure => omega
      ·obtain ⟨p', hp'⟩ : ∃ p', p = p' + 1 := ⟨p - 1, by omega⟩
       have k2 := HK1.out p' hp'
       have hlt := HLT.out p' hp'
       generalize row.getD p' 0 = y at *
       have hsub : (p : Int) - 1 = (p' : Int) := by omega
       have hpos : (0 : Int) < (p : Int) := by omega
       have hpi' : (p' : Int) < (R : Int) := by omega
       have hge : ¬ x ≤ y := by omega
       have hged : decide (x ≤ y) = false := decide_eq_false hge
       clear hp' hp0
       go_wp2_with fail
       go_roundg (gk - 1)
       case rel => exact ⟨p + 1, by go_num, by omega, HB10, HM10⟩
       case measure => omega
     ·obtain rfl : gk = 0 := by omega
      obtain rfl : p = R := by omega
      go_wp2_with fail
      go_roundg (L - q - 1)
      case rel => exact ⟨q + 1, by go_num, by omega, HB, hid (by rw [HPR1.out]; exact HMP.out)⟩
      case measure => omega
   ·obtain rfl : gk = 0 := by omega
    obtain rfl : q = L := by omega
    rw [HPL.out] at HMP
    have HMI := hid (HMP.out.congr (G' := gmZ ids h) fun z => by
     unfold gmZ
     by_cases hz : z ∈ ids
     ·rw [if_pos hz, if_pos ((HPA.out z).2 hz)]
     ·rw [if_neg hz, if_neg fun e => hz ((HPA.out z).1 e)])
    have hln := HMI.out.len
    clear HMP
    go_wp2_with fail
    clear hln
    go_loopg [95] M (fun K i wr => ∃ j : Nat, i = .int .i64 (j : Int) ∧ j + K = M ∧ Hid (Below w6.heap.size w6 wr) ∧ Hid (MapZ wr w6.heap.size N (gmZ ids h)))
    case atStart => exact ⟨0, rfl, by omega, HB, HMI⟩
    case round =>
     clear HB HMI
     obtain ⟨j, rfl, hj, HB, HMP⟩ := hrel
     have hwz := HB.out.size
     have hml := HMP.out.lt
     by_cases hp2 : 0 < gk
     ·have hjM : j < M := by omega
      have hji : (j : Int) < (M : Int) := by omega
      obtain ⟨b, o, c3, e3, hb, k0, k1, k2, k3, k4, k5, k6, k7, k8, k9, k10⟩ := rl_at (HRL.out wr HB.out) (q := j) (by rw [HM.out]; exact hjM)
      rw [HM.out] at e3
      obtain ⟨rfl, -, rfl⟩ := Value.slice.inj e3
      have hrm : rs.getD j Rl.z ∈ rs := getD_mem (by rw [HM.out]; exact hjM) _
      obtain ⟨ha1, ha2, hab, hco⟩ := HGF.out _ hrm
      have hge := HHO.out _ ha1 _ ha2 (HGE.out _ hrm)
      clear e3 hb hrm
      generalize rs.getD j Rl.z = r at *
      obtain ⟨ta, ca, tb, cb, co, oa2, ob, ma, mb2, la, lb⟩ := r
      simp only at k0 k1 k2 k3 k4 k5 k6 k7 k8 k9 k10 ha1 ha2 hab hco hge
      have hx := BoxN.new wr #[.int .i64 ta, .int .i64 ca, .int .i64 tb, .int .i64 cb, .int .i64 co, .int .i64 oa2, .int .i64 ob, .int .i64 ma, .int .i64 mb2, .int .i64 la, .int .i64 lb] 44
      have HBx := hid (HB.out.alloc hwz (.cells #[.int .i64 ta, .int .i64 ca, .int .i64 tb, .int .i64 cb, .int .i64 co, .int .i64 oa2, .int .i64 ob, .int .i64 ma, .int .i64 mb2, .int .i64 la, .int .i64 lb] 44))
      have HMx := hid (HMP.out.alloc (.cells #[.int .i64 ta, .int .i64 ca, .int .i64 tb, .int .i64 cb, .int .i64 co, .int .i64 oa2, .int .i64 ob, .int .i64 ma, .int .i64 mb2, .int .i64 la, .int .i64 lb] 44))
      obtain ⟨Y, hY⟩ : ∃ W, W = wr.alloc (.cells #[.int .i64 ta, .int .i64 ca, .int .i64 tb, .int .i64 cb, .int .i64 co, .int .i64 oa2, .int .i64 ob, .int .i64 ma, .int .i64 mb2, .int .i64 la, .int .i64 lb] 44) := ⟨_, rfl⟩
      rw [← hY] at hx HBx HMx
      have hl1 := HMx.out.look (HW64.out _ ha1)
      have hl2 := HMx.out.look (HW64.out _ ha2)
      rw [gmZ_mem ha1, hge] at hl1
      rw [gmZ_mem ha2] at hl2
      simp only [Option.getD_some] at hl1 hl2
      have x0 := hx.cell 0 rfl
      have x1 := hx.cell 1 rfl
      have x2 := hx.cell 2 rfl
      have x3 := hx.cell 3 rfl
      have x4 := hx.cell 4 rfl
      have HLS := hid (fun W => ref_Less03 ta ca tb cb W hab)
      have hc0 : decide (co = 0) = false := decide_eq_false (by omega)
      have hcb : (co == 0) = false := beq_false_of_ne (by omega)
      have hcn : ¬ co = 0 := by omega
      rw [hY] at hl1 hl2 x0 x1 x2 x3 x4
      clear hx ha1 ha2 hab hco hge
      generalize h tb = hv at *
      go_wp2_with fail
      rw [← hY]
      clear hY hl1 hl2 x0 x1 x2 x3 x4 k0 k1 k2 k3 k4 k5 k6 k7 k8 k9 k10
      with_reducible refine (HLS.out Y).mono ?_
      rintro e w8 ⟨rfl, hb8⟩
      have HB8 := hid (HBx.out.trans (hb8.mono HBx.out.size))
      have HM8 := hid (HMx.out.below hb8 HMx.out.lt)
      clear hb8
      go_wp2_with fail
      go_roundg (gk - 1)
      case rel => exact ⟨j + 1, by go_num, by omega, HB8, HM8⟩
      case measure => omega
     ·obtain rfl : gk = 0 := by omega
      obtain rfl : j = M := by omega
      go_wp2_with fail
      clear HMP
      go_loopg [126] q (fun K i wr => ∃ z : Nat, i = .int .i64 (z : Int) ∧ z + K = q ∧ Hid (Below w6.heap.size w6 wr))
      case atStart => exact ⟨0, rfl, by omega, HB⟩
      case round =>
       clear HB hwz hml
       obtain ⟨z, rfl, hz, HB⟩ := hrel
       have hwz := HB.out.size
       obtain ⟨gA, rfl⟩ : ∃ g, g = gk := ⟨gk, rfl⟩
       by_cases hp3 : 0 < gA
       ·have hzq : z < q := by omega
        have hzi : (z : Int) < (q : Int) := by omega
        obtain ⟨G, c3, e3, k0⟩ := gr_at (HG.out wr HB.out) (i := z) (by rw [HL.out]; exact hzq)
        obtain ⟨rb, rc, e4, hrw⟩ := gr_row (HG.out wr HB.out) (i := z) (by rw [HL.out]; exact hzq) (HPOS.out z hzq)
        have hrp := HPOS.out z hzq
        have hrl := HLEN.out z
        rw [HIL.out] at hrl
        rw [HL.out] at e3
        obtain ⟨rfl, -, rfl⟩ := Value.slice.inj e3
        rw [e4] at k0
        have HRC := hid (fun W (hW : Below w6.heap.size w6 W) k (hk : k < (out.getD z []).length) => (by
         obtain ⟨b', c', e5, h5⟩ := gr_row (HG.out W hW) (i := z) (by rw [HL.out]; exact hzq) (HPOS.out z hzq)
         rw [e4] at e5
         have e6 := (Value.slice.inj e5).1
         injection e6 with e6
         injection e6 with e6
         rw [e6]
         exact h5 k hk : W.cell? ⟨rb, k, none⟩ = some (.int .i64 ((out.getD z []).getD k 0))))
        have HGM1 := hid (HGM.out z hzq)
        have HSA1 := hid (HSAM.out z hzq)
        clear e3 e4 hrw
        generalize out.getD z [] = row at *
        obtain ⟨R, hR⟩ : ∃ R, R = row.length := ⟨_, rfl⟩
        have HR := hid hR.symm
        rw [← hR] at HRC hrl k0 hrp
        clear hR
        have hx0m : row.getD 0 0 ∈ row := getD_mem (by rw [HR.out]; exact hrp) 0
        have HX0 := hid (HGM1.out _ hx0m).1
        have HSA0 := hid (fun y hy => HSA1.out _ y hx0m hy)
        have hRi : (0 : Int) < (R : Int) := by omega
        have HMB := hid (MapB.made wr)
        have HBY := hid (HB.out.alloc hwz (.map #[] 0))
        have k1 : (wr.alloc (.map #[] 0)).cell? ⟨rb, 0, none⟩ = some (.int .i64 (row.getD 0 0)) := HRC.out _ HBY.out 0 hrp
        obtain ⟨w9, hrun, hm9, hg9⟩ := HMB.out.update (HW64.out _ HX0.out) (by unfold maxLen; omega)
        have HB9 := hid (HBY.out.grown hg9 (by simp; omega) (fun k hk => by have h1 := Option.some.inj hk; omega))
        have HM9 : Hid (MapB w9 wr.heap.size (cntB ids (setB (fun _ => false) (row.getD 0 0))) (setB (fun _ => false) (row.getD 0 0))) := hid (by
         rw [cntB_in HNOD.out HX0.out, cntB_none]
         exact hm9)
        have HS0 : Hid (setB (fun _ => false) (row.getD 0 0) (row.getD 0 0) = true) := hid (setB_same _ _)
        have hmm := @run_makeMap Tryz.prog
        have h9z := HM9.out.lt
        clear hm9 hg9 HMB hx0m
        generalize row.getD 0 0 = x at *
        go_wp2_with fail
        clear k0 k1 hrun hmm
        generalize wr.heap.size = sb at *
        generalize setB (fun _ => false) x = Sx at *
        go_loopg [20] (N - cntB ids Sx + 1) (fun K ch wr => ∃ (S : Int → Bool) (cc : Bool), ch = .bool cc ∧ K = (if cc = true then N - cntB ids S + 1 else 0) ∧ Hid (Below w6.heap.size w6 wr) ∧ Hid (MapB wr sb (cntB ids S) S) ∧ Hid (S x = true) ∧ Hid (cc = false → ∀ r ∈ rs, S r.ta = S r.tb))
        case atStart => exact ⟨Sx, true, rfl, rfl, HB9, HM9, HS0, hid (fun h => by cases h)⟩
        case round =>
         clear HB9 HM9 HS0 HBY h9z
         obtain ⟨S, cc, rfl, hK, HB, HMP, HSX, HFIN⟩ := hrel
         obtain ⟨gB, rfl⟩ : ∃ g, g = gk := ⟨gk, rfl⟩
         have hwA := HB.out.size
         have hsb := HMP.out.lt
         cases cc with
         | false =>
          obtain rfl : gB = 0 := by rw [hK]; rfl
          clear hK
          have HALL := hid (fun y hy => HCLO.out S x y HX0.out (HGM1.out y hy).1 (HSA0.out y hy) (HFIN.out rfl) HSX.out)
          clear HFIN HSX
          go_wp2_with fail
          go_loopg [164] R (fun K i wr => ∃ p : Nat, i = .int .i64 (p : Int) ∧ p + K = R ∧ Hid (Below w6.heap.size w6 wr) ∧ Hid (MapB wr sb (cntB ids S) S))
          case atStart => exact ⟨0, rfl, by omega, HB, HMP⟩
          case round =>
           clear HB HMP hwA hsb
           obtain ⟨p, rfl, hpp, HB, HMP⟩ := hrel
           by_cases hp4 : 0 < gk
           ·have hpR : p < R := by omega
            have hpi : (p : Int) < (R : Int) := by omega
            have k1 := HRC.out wr HB.out p hpR
            have hym : row.getD p 0 ∈ row := getD_mem (by rw [HR.out]; exact hpR) 0
            have hlk := HMP.out.look (HW64.out _ (HGM1.out _ hym).1)
            rw [HALL.out _ hym] at hlk
            clear hym
            generalize row.getD p 0 = y at *
            go_wp2_with fail
            go_roundg (gk - 1)
            case rel => exact ⟨p + 1, by go_num, by omega, HB, HMP⟩
            case measure => omega
           ·obtain rfl : gk = 0 := by omega
            obtain rfl : p = R := by omega
            go_wp2_with fail
            go_roundg (gA - 1)
            case rel => exact ⟨z + 1, by go_num, by omega, HB⟩
            case measure => omega
         | true =>
          rw [if_pos rfl] at hK
          go_wp2_with fail
          go_loopg [20, 138] j (fun K ch i wr => ∃ (k : Nat) (S' : Int → Bool) (c' : Bool), ch = .bool c' ∧ i = .int .i64 (k : Int) ∧ k + K = j ∧ Hid (Below w6.heap.size w6 wr) ∧ Hid (MapB wr sb (cntB ids S') S') ∧ Hid (S' x = true) ∧ Hid (c' = true → cntB ids S < cntB ids S') ∧ Hid (c' = false → S' = S ∧ ∀ i, i < k → S (rs.getD i Rl.z).ta = S (rs.getD i Rl.z).tb))
          case atStart => exact ⟨0, S, false, rfl, rfl, by omega, HB, HMP, HSX, hid (fun h => by cases h), hid (fun _ => ⟨rfl, fun i hi => absurd hi (by omega)⟩)⟩
          case round =>
           clear HB HMP HSX HFIN hwA hsb
           obtain ⟨k, S', c', rfl, rfl, hk, HB, HMP, HSX, HC1, HC0⟩ := hrel
           obtain ⟨wB, rfl⟩ : ∃ W, W = wr := ⟨wr, rfl⟩
           have hwB := HB.out.size
           have hsb := HMP.out.lt
           by_cases hp4 : 0 < gk
           ·have hkj : k < j := by omega
            have hki : (k : Int) < (j : Int) := by omega
            obtain ⟨b, o, c3, e3, hb, k0, k1, k2, k3, k4, k5, k6, k7, k8, k9, k10⟩ := rl_at (HRL.out wB HB.out) (q := k) (by rw [HM.out]; exact hkj)
            rw [HM.out] at e3
            obtain ⟨rfl, -, rfl⟩ := Value.slice.inj e3
            have hrm : rs.getD k Rl.z ∈ rs := getD_mem (by rw [HM.out]; exact hkj) _
            obtain ⟨ha1, ha2, -, -⟩ := HGF.out _ hrm
            have HEQ := hid (fun (hg : S' (rs.getD k Rl.z).ta = S' (rs.getD k Rl.z).tb) => (fun hc => by
             obtain ⟨h1, h2⟩ := HC0.out hc
             refine ⟨h1, fun i hi => ?_⟩
             by_cases e : i = k
             ·rw [e, ← h1]; exact hg
             ·exact h2 i (by omega) : c' = false → S' = S ∧ ∀ i, i < k + 1 → S (rs.getD i Rl.z).ta = S (rs.getD i Rl.z).tb))
            clear e3 hb hrm
            generalize rs.getD k Rl.z = r at *
            obtain ⟨ta, ca, tb, cb, co, oa2, ob, ma, mb2, la, lb⟩ := r
            simp only at k0 k1 k2 k3 k4 k5 k6 k7 k8 k9 k10 ha1 ha2 HEQ
            have hx := BoxN.new wB #[.int .i64 ta, .int .i64 ca, .int .i64 tb, .int .i64 cb, .int .i64 co, .int .i64 oa2, .int .i64 ob, .int .i64 ma, .int .i64 mb2, .int .i64 la, .int .i64 lb] 44
            have HBx := hid (HB.out.alloc hwB (.cells #[.int .i64 ta, .int .i64 ca, .int .i64 tb, .int .i64 cb, .int .i64 co, .int .i64 oa2, .int .i64 ob, .int .i64 ma, .int .i64 mb2, .int .i64 la, .int .i64 lb] 44))
            have HMx := hid (HMP.out.alloc (.cells #[.int .i64 ta, .int .i64 ca, .int .i64 tb, .int .i64 cb, .int .i64 co, .int .i64 oa2, .int .i64 ob, .int .i64 ma, .int .i64 mb2, .int .i64 la, .int .i64 lb] 44))
            obtain ⟨Y, hY⟩ : ∃ W, W = wB.alloc (.cells #[.int .i64 ta, .int .i64 ca, .int .i64 tb, .int .i64 cb, .int .i64 co, .int .i64 oa2, .int .i64 ob, .int .i64 ma, .int .i64 mb2, .int .i64 la, .int .i64 lb] 44) := ⟨_, rfl⟩
            rw [← hY] at hx HBx HMx
            have HXx := hid hx
            have hxs := HBx.out.size
            have hwx : wB.heap.size < Y.heap.size := hx.lt
            have hl1 := HMx.out.look (HW64.out _ ha1)
            have hl2 := HMx.out.look (HW64.out _ ha2)
            have x0 := hx.cell 0 rfl
            have x2 := hx.cell 2 rfl
            have HWA := hid (HW64.out _ ha1)
            have HWB := hid (HW64.out _ ha2)
            clear hx
            by_cases hg : S' ta = S' tb
            ·rw [hg] at hl1
             have HEQ2 := hid (HEQ.out hg)
             rw [hY] at hl1 hl2 x0 x2
             generalize S' tb = gv at *
             have hgv : (gv != gv) = false := by cases gv <;> rfl
             go_wp2_with fail
             go_roundg (gk - 1)
             case rel => exact ⟨k + 1, S', c', rfl, by go_num, by omega, hid (by rw [← hY]; exact HBx.out), hid (by rw [← hY]; exact HMx.out), HSX, HC1, HEQ2⟩
             case measure => omega
            ·have HJ := hid (cntB_join HNOD.out ha1 ha2 hg)
             have HJ2 : Hid (cntB ids S < cntB ids (setB (setB S' ta) tb)) := hid (by
              have hj2 := HJ.out
              cases c' with
              | true => have := HC1.out rfl; omega
              | false => rw [(HC0.out rfl).1] at hj2 ⊢; exact hj2)
             have HCN := hid (fun T : Int → Bool => cntB_le ids T)
             have hgd : decide (S' ta = S' tb) = false := decide_eq_false hg
             have hgb : (S' ta == S' tb) = false := beq_false_of_ne hg
             have hgn : (S' ta != S' tb) = true := by simpa using hg
             rw [hY] at hl1 hl2 x0 x2
             go_upto_region 39 with fail
             rw [← hY]
             clear hY hl1 hl2 x0 x2
             obtain ⟨v1, hrun1, hm1, hg1⟩ := (HMx.out.later (w' := Y.drew) rfl).update HWA.out (by have h1 := HCN.out S'; rw [HIL.out] at h1; unfold maxLen; omega)
             rw [← cntB_in HNOD.out ha1] at hm1
             obtain ⟨v2, hrun2, hm2, hg2⟩ := hm1.update HWB.out (by have h1 := HCN.out (setB S' ta); rw [HIL.out] at h1; unfold maxLen; omega)
             rw [← cntB_in HNOD.out ha2] at hm2
             have hbx1 := BoxN.grown (w := Y.drew) HXx.out hg1 (by intro e; have h1 := Option.some.inj e; omega)
             have x0 : Y.drew.cell? ⟨wB.heap.size, 0, none⟩ = some (.int .i64 ta) := HXx.out.cell 0 rfl
             have x2 : Y.drew.cell? ⟨wB.heap.size, 2, none⟩ = some (.int .i64 tb) := HXx.out.cell 2 rfl
             have y0 := hbx1.cell 0 rfl
             have y2 := hbx1.cell 2 rfl
             have HB2 : Hid (Below w6.heap.size w6 v2) := hid ((((HBx.out).drew).grown hg1 hxs (fun k hk => by have h1 := Option.some.inj hk; omega)).grown hg2 (Nat.le_trans hxs hg1.size) (fun k hk => by have h1 := Option.some.inj hk; omega))
             have HM2 := hid hm2
             have HSX2 := hid (setB_old (k := tb) (setB_old (k := ta) HSX.out))
             clear hm1 hm2 hg1 hg2 hbx1
             go_region
             all_goals
              go_wp2_with fail
              go_roundg (gk - 1)
              case rel => exact ⟨k + 1, setB (setB S' ta) tb, true, rfl, by go_num, by omega, HB2, HM2, HSX2, hid (fun _ => HJ2.out), hid (fun h => by cases h)⟩
              case measure => omega
           ·obtain rfl : gk = 0 := by omega
            obtain rfl : k = j := by omega
            have hcl := cntB_le ids S'
            rw [HIL.out] at hcl
            go_wp2_with fail
            go_roundg (if c' = true then N - cntB ids S' + 1 else 0)
            case rel => exact ⟨S', c', rfl, rfl, HB, HMP, HSX, hid (fun hc r hr => by
             obtain ⟨h1, h2⟩ := HC0.out hc
             obtain ⟨i, hi, e⟩ := List.getElem_of_mem hr
             have h3 := h2 i (by rw [← HM.out]; exact hi)
             simp [List.getD, hi, e] at h3
             rw [h1]
             exact h3)⟩
            case measure =>
             cases c' with
             | true => rw [if_pos rfl]; have := HC1.out rfl; omega
             | false => rw [if_neg (by simp)]; omega
       ·obtain rfl : gA = 0 := by omega
        obtain rfl : z = q := by omega
        have HBW := hid (HB6.out.trans (HB.out.mono HB6.out.size))
        go_wp2_with fail
        with_reducible refine (HAW.out wr HBW.out).mono ?_
        rintro e w9 ⟨rfl, hb9⟩
        have HB9 := hid (HBW.out.trans (hb9.mono HBW.out.size))
        clear hb9
        go_wp2
        go_ret
        exact ⟨rfl, HB9.out⟩
 ·have HLI := hid (kit_Light a n c w hnm)
  rw [decide_eq_false hg] at HLI
  go_enter Tryz.func6, Tryz.ntmps6
  go_wp2_with fail
  with_reducible refine HLI.out.mono ?_
  rintro e w0 ⟨rfl, rfl⟩
  clear HLI
  go_wp2_with fail
  with_reducible refine (HAW.out w (Below.refl _ _)).mono ?_
  rintro e w1 ⟨rfl, hb1⟩
  have HB1 := hid hb1
  clear hb1
  go_wp2
  go_ret
  exact ⟨rfl, HB1.out⟩
end Go.Proofs.YtaajpliifdlokaaGreatDoor

namespace Go.Proofs.YtaajpliifdlokaaGreatDoor
open Go.RowKit
def RdU (w : World) (B : Nat) (a : Option Addr) (n c : Nat) : Prop :=
  n ≤ c ∧ c ≤ maxLen ∧ (0 < n → ∃ b o, a = some ⟨b, o, none⟩ ∧ b < B ∧ ∀ i, i < n → ∃ x : Nat, x < 256 ∧ w.cell? ⟨b, o + i, none⟩ = some (.int .u8 (x : Int)))
end Go.Proofs.YtaajpliifdlokaaGreatDoor

namespace Go.Proofs.YtaajpliifdlokaaGreatDoor
open Go.ChangeShapes Go.WideShapes Go.ChangeAt Go.RowKit Go.Lib
set_option linter.unusedVariables false
theorem kOwn : ownKnob Tryz.prog.godebug = none := by kernel_rfl
theorem kLaid : laidOutB Tryz.prog = true := by kernel_rfl
noncomputable def laidWorld (os : Os) : World :=
  let w0 := World.doorLaid Tryz.prog 400 os
  { w0 with heap := w0.heap.modify 1 fun
      | .cells _ t frozen => .cells (Lib.firstTab.map fun z => Value.int .u8 z).toArray t frozen
      | o => o }
theorem tabs_of {l : List (String × DataW Unit)} {W : World} (h : laidMet Tryz.prog l W) (h1 : ("unicode/utf8.first", Rows.laid_unicode_utf8_first) ∈ l) (h2 : ("unicode/utf8.acceptRanges", Rows.laid_unicode_utf8_acceptRanges) ∈ l) : Tabs W := by
  have e1 : (Rows.laid_unicode_utf8_first : DataW Unit) = Lib.firstData := Go.Pinned.utf8First_eq
  have e2 : (Rows.laid_unicode_utf8_acceptRanges : DataW Unit) = Lib.acceptData := by kernel_rfl
  have r1 := Lib.laidMet.reads h h1
  have r2 := Lib.laidMet.reads h h2
  rw [e1] at r1
  rw [e2] at r2
  exact utf8Tabs_of_readsT (U8Types.of196 Tryz.layValid) ⟨by kernel_rfl, by kernel_rfl, by kernel_rfl, by kernel_rfl, by kernel_rfl, by kernel_rfl, by kernel_rfl⟩ r1 r2
end Go.Proofs.YtaajpliifdlokaaGreatDoor
