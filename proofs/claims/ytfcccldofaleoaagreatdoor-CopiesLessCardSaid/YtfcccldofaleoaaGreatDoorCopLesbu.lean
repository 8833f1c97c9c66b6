/- The walk of CopiesLess (under way). -/
import Derived.Deep.Cut
import Derived.Deep.CutRange
import Derived.Test.YtfcccldofaleoaaGreatDoorCopLesau
import Derived.Test.YtfcccldofaleoaaGreatDoorCopLesbk
import Derived.Test.YtfcccldofaleoaaGreatDoorCopLesbr
import Derived.Test.YtfcccldofaleoaaGreatDoorCopLesbi
import Derived.Test.YtfcccldofaleoaaGreatDoorCopLesbs
import Derived.Test.YtfcccldofaleoaaGreatDoorCopLesat
import Derived.Test.YtfcccldofaleoaaGreatDoorCopLesbt
namespace Go.Proofs.YtfcccldofaleoaaGreatDoor
open Go.RowKit

/-- a hit of the list, with its table -/
def HitAt (ts : List Ta) (qc : List Co) (w6 : World) (m : Mh) : Prop :=
  ∃ j, j < ts.length ∧ (∀ i, i < j → (ts.getD i Ta.z).id ≠ (ts.getD j Ta.z).id) ∧ TabV (ts.getD j Ta.z) ∧ m.id = (ts.getD j Ta.z).id ∧ m.p = commonL qc (ts.getD j Ta.z).cols / Nat.gcd (commonL qc (ts.getD j Ta.z).cols) (denS qc (ts.getD j Ta.z).cols) ∧ m.q = denS qc (ts.getD j Ta.z).cols / Nat.gcd (commonL qc (ts.getD j Ta.z).cols) (denS qc (ts.getD j Ta.z).cols) ∧ 0 < m.p ∧ Fr.RdF w6 m.fr false m.p m.q ∧ Fr.Sml m.p m.q
theorem HitOf.at {ts : List Ta} {qc : List Co} {w6 : World} {m : Mh} (h : HitOf ts qc m) (hl : ListV ts) (hr : Fr.RdF w6 m.fr false m.p m.q) (hs : Fr.Sml m.p m.q) : HitAt ts qc w6 m := by
  obtain ⟨j, hj, h1, h2, h3, h4⟩ := h
  exact ⟨j, hj, fun i hi => by have := ids_up hl.2.2 hi hj; omega, hl.2.1 _ (getD_mem hj Ta.z), h1, h2, h3, h4, hr, hs⟩

set_option maxRecDepth 100000 in
set_option maxHeartbeats 8000000 in
theorem law36_less (a : Option Addr) (n c : Nat) (w : World) (hA : RdI w w.heap.size a n c) (hT : Tabs w) (hP : Pow w) (ho : Fr.OneAt w) :
    Calls Tryz.prog 7 #[.slice a n c] w (Ret w (.bool true)) := by
  have HA := hid hA
  have HT := hid hT
  have HP := hid hP
  have HO := hid ho
  have hnm : n ≤ maxLen := Nat.le_trans hA.1 hA.2.1
  clear hA hT hP ho
  by_cases hg : n ≤ 500
  · have HLI := hid (kit_Light a n c w hnm)
    rw [decide_eq_true hg] at HLI
    go_enter Tryz.func7, Tryz.ntmps7
    generalize hLA : Code.loop _ = LA
    go_wp2_with fail
    with_reducible refine HLI.out.mono ?_
    rintro e w0 ⟨rfl, rfl⟩
    clear HLI
    go_wp2_with fail
    with_reducible refine (kit_Roll a n c _ HA.out hg HP.out).mono ?_
    rintro e w1 ⟨rfl, hd1, hb1⟩
    have HB1 := hid hb1
    have hz1 := hd1.lt
    have HKT : Hid (Calls Tryz.prog 28 #[.pointer (some ⟨w.heap.size, 0, none⟩), .int .i64 4] w1 (KLis w1 w.heap.size 4)) := hid (kit_Tables w.heap.size 4 w1 hd1 ⟨w, HT.out, Nat.le_refl _, hb1⟩ (by omega))
    clear hd1 hb1
    go_wp2_with fail
    with_reducible refine HKT.out.mono ?_
    rintro e w2 ⟨ts, v, rfl, hrd, hpos, hlen, hlv, hd2, hr2⟩
    have HLV := hid hlv
    have HD2 := hid hd2
    have HRD := hid hrd
    have hz2 := hr2.size
    have HB2 := hid (HB1.out.trans (hr2.below (B' := w.heap.size) (Nat.le_refl _) (by omega)))
    obtain ⟨tv, ⟨ta, tc, rfl, hc, hm, hr⟩, hkid⟩ := hrd
    have HR := hid hr
    have HKID := hid hkid
    clear hlv hd2 hr2 hr hkid HKT
    unfold maxLen at hm
    generalize hxl : ts.length = L at *
    have HXL := hid hxl
    clear hxl
    have hL4 : L ≤ 4 := by omega
    go_wp2_with fail
    with_reducible refine (kit_Next w.heap.size _ _ HD2.out (by omega) (by omega)).mono ?_
    rintro e w3 ⟨j, rfl, hj, hd3, hr3, -⟩
    have hjL : j < L := by omega
    have hjLi : (j : Int) < (L : Int) := by omega
    have hz3 := hr3.size
    have HB3 := hid (HB2.out.trans (hr3.below (B' := w.heap.size) (by omega) (by omega)))
    have HRD3 : Hid (RdTa w3 (fun b => w1.heap.size ≤ b ∧ b < w2.heap.size) (.slice ta L tc) ts) := hid (HRD.out.keep fun p hp => hr3.cell (p := p) (by have := hp.2; omega) (by have := hp.1; omega))
    obtain ⟨b, o, rfl, hb, hcell⟩ := HR.out (by omega)
    have k0 : w3.cell? ⟨b, o + j * 3, none⟩ = some (.int .i64 (ts.getD j Ta.z).id) := (hr3.cell (p := ⟨b, o + j * 3, none⟩) hb.2 (by show b ≠ _; have := hb.1; omega)).trans (hcell j hjL 0 (by omega))
    have k1 : w3.cell? ⟨b, o + j * 3 + 1, none⟩ = some (.string (ts.getD j Ta.z).name) := (hr3.cell (p := ⟨b, o + j * 3 + 1, none⟩) hb.2 (by show b ≠ _; have := hb.1; omega)).trans (hcell j hjL 1 (by omega))
    have k2 : w3.cell? ⟨b, o + j * 3 + 2, none⟩ = some (tv j) := (hr3.cell (p := ⟨b, o + j * 3 + 2, none⟩) hb.2 (by show b ≠ _; have := hb.1; omega)).trans (hcell j hjL 2 (by omega))
    have HKD := hid (kit_Derived w.heap.size (ts.getD j Ta.z) (tv j) 0 w3 hd3 ⟨w, HT.out, Nat.le_refl _, HB3.out⟩ (HLV.out.2.1 _ (getD_mem (by rw [HXL.out]; exact hjL) Ta.z)) (((HKID.out j hjL).keep fun p hp => hr3.cell (p := p) hp.2 (by have := hp.1; omega)).more fun b hb => ⟨by have := hb.2; omega, by have := hb.1; omega⟩))
    clear hcell hd3 hr3 HKID HR HD2 HRD
    generalize (ts.getD j Ta.z).id = tji at *
    generalize (ts.getD j Ta.z).name = tjn at *
    generalize tv j = tjv at *
    go_wp2_with fail
    with_reducible refine HKD.out.mono ?_
    clear k0 k1 k2 HKD
    rintro e w4 ⟨yn, yc, yu, rfl, htw, hco, -, hr4⟩
    have HTV := hid (htw.tab (id := 0) (by omega) (by omega))
    have hz4 := hr4.size
    have HB4 := hid (HB3.out.trans (hr4.below (B' := w.heap.size) (by omega) (by omega)))
    have HRD4 : Hid (RdTa w4 (fun b => w1.heap.size ≤ b ∧ b < w2.heap.size) (.slice (some ⟨b, o, none⟩) L tc) ts) := hid (HRD3.out.keep fun p hp => hr4.cell (p := p) (by have := hp.2; omega) (by have := hp.1; omega))
    have HQ4 := hid hco.read
    obtain ⟨L5, hL5⟩ := hco.owns
    obtain ⟨lq, hlq⟩ : ∃ lq, lq = yc.length := ⟨_, rfl⟩
    rw [← hlq] at hL5
    obtain ⟨qa, qk, rfl⟩ := own_slice hL5
    clear htw hco hr4 hL5 hlq HRD3
    have HQB5 := hid (BoxN.new w4 #[.int .i64 0, .string yn, .slice qa lq qk] 24)
    have HB5 := hid (HB4.out.trans ((Below.refl w.heap.size w4).alloc (by omega) (.cells #[.int .i64 0, .string yn, .slice qa lq qk] 24)))
    have hz5 : w4.heap.size < (w4.alloc (.cells #[.int .i64 0, .string yn, .slice qa lq qk] 24)).heap.size := by simp
    have HTS5 := hid ((HRD4.out.keep (w' := w4.alloc (.cells #[.int .i64 0, .string yn, .slice qa lq qk] 24)) fun p hp => World.cell?_alloc_lt _ _ _ (by have := hp.2; omega)).more (S' := (· < (w4.alloc (.cells #[.int .i64 0, .string yn, .slice qa lq qk] 24)).heap.size)) fun b hb => by have := hb.2; omega)
    have HQR5 := hid ((HQ4.out.keep (w' := w4.alloc (.cells #[.int .i64 0, .string yn, .slice qa lq qk] 24)) fun p hp => World.cell?_alloc_lt _ _ _ hp.2).more (S' := (· < (w4.alloc (.cells #[.int .i64 0, .string yn, .slice qa lq qk] 24)).heap.size)) fun b hb => by have := hb.2; omega)
    have x0 := HQB5.out.cell 0 rfl
    have x1 := HQB5.out.cell 1 rfl
    have x2 := HQB5.out.cell 2 rfl
    have HF0 : Hid (∀ W, Calls Tryz.prog 61 #[.slice none 0 0, .int .i64 1024, .func (.func 62) #[] #[]] W fun e' w' => e' = .returned (.slice none 0 0) ∧ w' = W) := hid (fun W => lists_First0 1024 W (by omega))
    clear HRD4 HQ4
    go_wp2_with fail
    generalize w4.alloc (.cells #[.int .i64 0, .string yn, .slice qa lq qk] 24) = W5 at *
    with_reducible refine (copies_Top ts _ _ ⟨0, yn, yc⟩ W5.heap.size W5 HLV.out HTS5.out HTV.out HQR5.out (Nat.le_refl _) (HT.out.below HB5.out) (HO.out.below HB5.out) HF0.out).mono ?_
    clear x0 x1 x2
    rintro e w6 ⟨ds, hv, rfl, hin, hdl, hpw, hhit, hb6⟩
    have HQB := hid (HQB5.out.below hb6 HQB5.out.lt)
    have HTS := hid ((HTS5.out.keep fun p (hp : p.block < W5.heap.size) => hb6.cell (p := p) hp).more (S' := (· < w6.heap.size)) fun b (hb : b < W5.heap.size) => Nat.lt_of_lt_of_le hb hb6.size)
    have HQR := hid ((HQR5.out.keep fun p (hp : p.block < W5.heap.size) => hb6.cell (p := p) hp).more (S' := (· < w6.heap.size)) fun b (hb : b < W5.heap.size) => Nat.lt_of_lt_of_le hb hb6.size)
    have HB6 := hid (HB5.out.trans (hb6.mono HB5.out.size))
    have HHIT := hid (fun i (hi : i < ds.length) => (by
      obtain ⟨h1, h2, h3⟩ := hhit _ (getD_mem hi default)
      exact h1.at HLV.out h2 h3 : HitAt ts yc w6 (ds.getD i default).1))
    have HPW := hid (fun i (hi : i + 1 < ds.length) => (by
      have h := List.pairwise_iff_getElem.1 hpw i (i + 1) (by omega) hi (by omega)
      simpa [List.getD, hi, show i < ds.length by omega] using h : leM (ds.getD (i + 1) default).1 (ds.getD i default).1))
    have hz6 := HQB.out.lt
    obtain ⟨ha, hk, rfl, hk1, hk2, hrow⟩ := hin
    unfold maxLen at hk2
    have HROW := hid hrow
    clear hdl hpw hhit hb6 hrow HQB5 HTS5 HQR5 HF0
    generalize ds.length = M at *
    go_wp2_with fail
    subst hLA
    go_loopg [46] M (fun N i wr => ∃ q : Nat, i = .int .i64 (q : Int) ∧ q + N = M ∧ Hid (Below w6.heap.size w6 wr))
    case atStart => exact ⟨0, rfl, by omega, hid (Below.refl _ _)⟩
    case round =>
      obtain ⟨q, rfl, hq, HB⟩ := hrel
      have hwr := HB.out.size
      have HT6 := hid (HT.out.below (HB6.out.trans (HB.out.mono HB6.out.size)))
      by_cases hp : 0 < gk
      · have hqM : q < M := by omega
        obtain ⟨hb, ho, rfl, hbl, hcell⟩ := HROW.out (by omega)
        have hbl' : hb < w6.heap.size := hbl.2
        have HKK := hid (fun i (hi : i < M) jj (hj : jj < 6) => ((HB.out.cell (p := ⟨hb, ho + i * 6 + jj, none⟩) hbl').trans (hcell i hi jj hj) : wr.cell? ⟨hb, ho + i * 6 + jj, none⟩ = some (encF encQ default ds i jj)))
        have HKW := hid (fun W (hW : Below w6.heap.size w6 W) i (hi : i < M) jj (hj : jj < 6) => ((hW.cell (p := ⟨hb, ho + i * 6 + jj, none⟩) hbl').trans (hcell i hi jj hj) : W.cell? ⟨hb, ho + i * 6 + jj, none⟩ = some (encF encQ default ds i jj)))
        have k0 : wr.cell? ⟨hb, ho + q * 6, none⟩ = some (.int .i64 (ds.getD q default).1.id) := HKK.out q hqM 0 (by omega)
        have k1 : wr.cell? ⟨hb, ho + q * 6 + 1, none⟩ = some (.slice (ds.getD q default).1.al.1 (ds.getD q default).1.al.2.1 (ds.getD q default).1.al.2.2) := HKK.out q hqM 1 (by omega)
        have k2 : wr.cell? ⟨hb, ho + q * 6 + 2, none⟩ = some (.bool false) := HKK.out q hqM 2 (by omega)
        have k3 : wr.cell? ⟨hb, ho + q * 6 + 3, none⟩ = some (.slice (ds.getD q default).1.nu.1 (Fr.dig (ds.getD q default).1.p).length (ds.getD q default).1.nu.2) := HKK.out q hqM 3 (by omega)
        have k4 : wr.cell? ⟨hb, ho + q * 6 + 4, none⟩ = some (.bool false) := HKK.out q hqM 4 (by omega)
        have k5 : wr.cell? ⟨hb, ho + q * 6 + 5, none⟩ = some (.slice (ds.getD q default).1.de.1 (Fr.dig (ds.getD q default).1.q).length (ds.getD q default).1.de.2) := HKK.out q hqM 5 (by omega)
        have hle := fun r (hr : q = r + 1) => (by subst hr; exact HPW.out r hqM : leM (ds.getD q default).1 (ds.getD r default).1)
        obtain ⟨j, hj, hu, htv, hmi, hmp, hmq, hpos, hrf, hsm⟩ := HHIT.out q hqM
        generalize ds.getD q default = x at *
        obtain ⟨⟨mi, ⟨ma, mn, mc⟩, ⟨na, nc⟩, ⟨da, dc⟩, mp, mq⟩, hmq0⟩ := x
        simp only at k0 k1 k3 k5 hmi hmp hmq hpos hsm
        subst hmi
        have HRF : Hid (Fr.RdF w6 (.agg #[.bool false, .slice na (Fr.dig mp).length nc, .bool false, .slice da (Fr.dig mq).length dc]) false mp mq) := hid hrf
        have HSM := hid hsm
        have HLE := hid (fun r (hr : q = r + 1) => (hle r hr : mp * (ds.getD r default).1.q ≤ (ds.getD r default).1.p * mq))
        have hrw := pos_rows (qs := yc) (xs := (ts.getD j Ta.z).cols) (by rw [← hmp]; exact hpos)
        have hct := common_cut yc (ts.getD j Ta.z).cols hrw.1
        have HTX := hid htv
        have HFI := hid (fun W (hW : Below w6.heap.size w6 W) => ref_Find (.slice (some ⟨b, o, none⟩) L tc) ts w6.heap.size j W hj hu (by have := HXL.out; omega) (HTS.out.keep fun p (hp : p.block < w6.heap.size) => hW.cell (p := p) hp) hW.size)
        have HSC := hid (fun u (hu : RdCo w6 (· < w6.heap.size) u (ts.getD j Ta.z).cols) W (hW : Below w6.heap.size w6 W) => (by
          have h := copies_Score ⟨0, yn, yc⟩ (ts.getD j Ta.z) (.slice qa lq qk) u w6.heap.size W HTV.out HTX.out (HQR.out.keep fun p (hp : p.block < w6.heap.size) => hW.cell (p := p) hp) (hu.keep fun p (hp : p.block < w6.heap.size) => hW.cell (p := p) hp) hW.size (HT.out.below (HB6.out.trans (hW.mono HB6.out.size)))
          simp only at h
          rw [← hmp, ← hmq] at h
          exact h : Calls Tryz.prog 19 #[.agg #[.int .i64 0, .string yn, .slice qa lq qk], .agg #[.int .i64 (ts.getD j Ta.z).id, .string (ts.getD j Ta.z).name, u]] W (Fr.GivesFE W false mp mq (.int .i64 0))))
        have HCO := hid (fun u (hu : RdCo w6 (· < w6.heap.size) u (ts.getD j Ta.z).cols) W (hW : Below w6.heap.size w6 W) => copies_Common ⟨0, yn, yc⟩ (ts.getD j Ta.z) (.slice qa lq qk) u w6.heap.size W HTV.out HTX.out (HQR.out.keep fun p (hp : p.block < w6.heap.size) => hW.cell (p := p) hp) (hu.keep fun p (hp : p.block < w6.heap.size) => hW.cell (p := p) hp) hW.size (HT.out.below (HB6.out.trans (hW.mono HB6.out.size))))
        have HCC := hid (fun u W (hu : RdCo W (· < W.heap.size) u (cutL (ts.getD j Ta.z).cols)) (hW : Below w6.heap.size w6 W) => copies_Common ⟨0, yn, yc⟩ ⟨(ts.getD j Ta.z).id, (ts.getD j Ta.z).name, cutL (ts.getD j Ta.z).cols⟩ (.slice qa lq qk) u W.heap.size W HTV.out (cut_valid HTX.out) ((HQR.out.keep fun p (hp : p.block < w6.heap.size) => hW.cell (p := p) hp).more fun b (hb : b < w6.heap.size) => Nat.lt_of_lt_of_le hb hW.size) hu (Nat.le_refl _) (HT.out.below (HB6.out.trans (hW.mono HB6.out.size))))
        have HRS := hid (fun k (hk : k < (ts.getD j Ta.z).cols.length) => (by
          obtain ⟨-, -, -, -, m, -, hm⟩ := HTX.out
          have h1 := (hm _ (getD_mem hk Co.z)).2.1
          have h2 := (hm _ (getD_mem (l := (ts.getD j Ta.z).cols) (i := 0) (by omega) Co.z)).2.1
          have h3 : 0 < ((ts.getD j Ta.z).cols.getD 0 Co.z).cells.length := hrw.1
          omega : 0 < ((ts.getD j Ta.z).cols.getD k Co.z).cells.length))
        have htl : (ts.getD j Ta.z).cols.length ≤ 64 := HTX.out.2.2.2.1
        have hC4 : commonL yc (ts.getD j Ta.z).cols ≤ 4096 := Nat.le_trans (commonL_le_rows _ _) (rows_le (t := ⟨0, yn, yc⟩) HTV.out)
        clear hcell hle hj hu htv hmp hmq hpos hrf hsm hrw
        generalize commonL yc (ts.getD j Ta.z).cols = C at *
        generalize commonL yc (cutL (ts.getD j Ta.z).cols) = K at *
        obtain ⟨hct1, hct2⟩ := hct
        generalize ts.getD j Ta.z = t at *
        obtain ⟨ti, tn, tx⟩ := t
        simp only at k0 HFI HSC HCO HCC HRS htl
        have HM1 := hid (BoxN.new wr #[.int .i64 ti, .slice ma mn mc, .bool false, .slice na (Fr.dig mp).length nc, .bool false, .slice da (Fr.dig mq).length dc] 78)
        have HC1 := hid (HB.out.trans ((Below.refl wr.heap.size wr).alloc (Nat.le_refl _) (.cells #[.int .i64 ti, .slice ma mn mc, .bool false, .slice na (Fr.dig mp).length nc, .bool false, .slice da (Fr.dig mq).length dc] 78) |>.mono hwr))
        have hz1 : wr.heap.size < (wr.alloc (.cells #[.int .i64 ti, .slice ma mn mc, .bool false, .slice na (Fr.dig mp).length nc, .bool false, .slice da (Fr.dig mq).length dc] 78)).heap.size := by simp
        have y0 := HM1.out.cell 0 rfl
        generalize hLC : Code.loop _ = LC
        go_wp2_with fail
        generalize wr.alloc (.cells #[.int .i64 ti, .slice ma mn mc, .bool false, .slice na (Fr.dig mp).length nc, .bool false, .slice da (Fr.dig mq).length dc] 78) = W1 at *
        clear k0 k1 k2 k3 k4 k5
        with_reducible refine (HFI.out _ HC1.out).mono ?_
        clear y0
        rintro e w7 ⟨u, rfl, hu, hb7⟩
        simp only at hu
        have hu6 : RdCo w6 (· < w6.heap.size) u tx := hu.keep fun p (hp : p.block < w6.heap.size) => (HC1.out.cell (p := p) hp).symm
        have HU := hid hu6
        obtain ⟨cv, ⟨ua, uc, rfl, huc, hum, hur⟩, hukid⟩ := hu6
        obtain ⟨lc, hlc⟩ : ∃ lc, lc = tx.length := ⟨_, rfl⟩
        rw [← hlc] at HU htl huc hur hukid HRS ⊢
        have HUR := hid hur
        have HUK := hid hukid
        have HLC := hid hlc
        have HM7 := hid (HM1.out.below hb7 HM1.out.lt)
        have HC7 := hid (HC1.out.trans (hb7.mono HC1.out.size))
        clear hu hb7 hur hukid hlc HM1 HC1
        have hz7 := HC7.out.size
        have HX8 := hid (BoxN.new w7 #[.int .i64 ti, .string tn, .slice ua lc uc] 24)
        have hb8 := (Below.refl w7.heap.size w7).alloc (Nat.le_refl _) (.cells #[.int .i64 ti, .string tn, .slice ua lc uc] 24)
        have HM8 := hid (HM7.out.below hb8 HM7.out.lt)
        have HC8 := hid (HC7.out.trans (hb8.mono hz7))
        have hQ8 := HQB.out.below HC8.out HQB.out.lt
        have x0 := hQ8.cell 0 rfl
        have x1 := hQ8.cell 1 rfl
        have x2 := hQ8.cell 2 rfl
        have y0 := HX8.out.cell 0 rfl
        have y1 := HX8.out.cell 1 rfl
        have y2 := HX8.out.cell 2 rfl
        clear hb8 hQ8 HM7 HC7
        go_wp2_with fail
        generalize w7.alloc (.cells #[.int .i64 ti, .string tn, .slice ua lc uc] 24) = W8 at *
        with_reducible refine (HSC.out _ HU.out _ HC8.out).mono ?_
        clear x0 x1 x2 y0 y1 y2
        rintro e w9 ⟨a4, c4, d4, e4, rfl, hN, hb9⟩
        have HS10 := hid (Fr.FrB.new (hN.rd false))
        have hb10 := hb9.trans ((Below.refl w9.heap.size w9).alloc (Nat.le_refl _) (.cells #[.bool false, .slice a4 (Fr.dig mp).length c4, .bool false, .slice d4 (Fr.dig mq).length e4] 49) |>.mono hb9.size)
        have HC10 := hid (HC8.out.trans (hb10.mono HC8.out.size))
        have HM10 := hid (HM8.out.below hb10 HM8.out.lt)
        have HX10 := hid (HX8.out.below hb10 HX8.out.lt)
        clear hN hb9 hb10 HM8 HX8 HC8
        go_upto_region 12 with fail
        generalize w9.alloc (.cells #[.bool false, .slice a4 (Fr.dig mp).length c4, .bool false, .slice d4 (Fr.dig mq).length e4] 49) = W10 at *
        generalize w9.heap.size = s9 at *
        go_cut [90] from 47 to 89 (fun c wx => c = .bool false ∧ Hid (Below W10.heap.size W10 wx))
        case first =>
          have HR1 := hid (fun W (hW : Below W10.heap.size W10 W) => Fr.ref_Same (Value.agg #[.bool false, .slice a4 (Fr.dig mp).length c4, .bool false, .slice d4 (Fr.dig mq).length e4]) (Value.agg #[.bool false, .slice na (Fr.dig mp).length nc, .bool false, .slice da (Fr.dig mq).length dc]) mp mq W (HS10.out.below hW).2 (HRF.out.kept (HC10.out.trans (hW.mono HC10.out.size))))
          have HC := hid (show Below W10.heap.size W10 W10.drew by have h1 := Below.refl W10.heap.size W10; repeat' (first | (with_reducible exact Below.refl _ _) | (with_reducible assumption) | (with_reducible refine below_drewN ?_) | (with_reducible refine Below.alloc ?_ ?_ _) | (with_reducible refine Below.drew ?_) | (with_reducible refine Below.setCell ?_ ?_ _) | (with_reducible refine Below.trans ?_ (Below.mono (by with_reducible assumption) ?_)) | go_size))
          by_cases hq0 : q = 0
          · subst hq0
            have hgd : decide ((0 : Int) < 0) = false := by decide
            have HG := hid (fun W (hW : Below W10.heap.size W10 W) => (⟨(HS10.out.below hW).1.cell 0 rfl, (HS10.out.below hW).1.cell 1 rfl, (HS10.out.below hW).1.cell 2 rfl, (HS10.out.below hW).1.cell 3 rfl, (HM10.out.below hW HM10.out.lt).cell 2 rfl, (HM10.out.below hW HM10.out.lt).cell 3 rfl, (HM10.out.below hW HM10.out.lt).cell 4 rfl, (HM10.out.below hW HM10.out.lt).cell 5 rfl⟩ : W.cell? ⟨s9, 0, none⟩ = some (.bool false) ∧ W.cell? ⟨s9, 1, none⟩ = some (.slice a4 (Fr.dig mp).length c4) ∧ W.cell? ⟨s9, 2, none⟩ = some (.bool false) ∧ W.cell? ⟨s9, 3, none⟩ = some (.slice d4 (Fr.dig mq).length e4) ∧ W.cell? ⟨wr.heap.size, 2, none⟩ = some (.bool false) ∧ W.cell? ⟨wr.heap.size, 3, none⟩ = some (.slice na (Fr.dig mp).length nc) ∧ W.cell? ⟨wr.heap.size, 4, none⟩ = some (.bool false) ∧ W.cell? ⟨wr.heap.size, 5, none⟩ = some (.slice da (Fr.dig mq).length dc)))
            generalize (Fr.dig mp).length = l1 at *
            generalize (Fr.dig mq).length = l2 at *
            refine wp_region_held_drew (S := fun w' => w'.cell? ⟨s9, 0, none⟩ = some (.bool false) ∧ w'.cell? ⟨s9, 1, none⟩ = some (.slice a4 l1 c4) ∧ w'.cell? ⟨s9, 2, none⟩ = some (.bool false) ∧ w'.cell? ⟨s9, 3, none⟩ = some (.slice d4 l2 e4) ∧ w'.cell? ⟨wr.heap.size, 2, none⟩ = some (.bool false) ∧ w'.cell? ⟨wr.heap.size, 3, none⟩ = some (.slice na l1 nc) ∧ w'.cell? ⟨wr.heap.size, 4, none⟩ = some (.bool false) ∧ w'.cell? ⟨wr.heap.size, 5, none⟩ = some (.slice da l2 dc)) (by kernel_rfl) (HG.out _ HC.out) (fun hHeld => ?_)
            refine wpAnyH_take (i := 0) (v := ?_) (by simp only [List.getElem?_toArray, List.getElem?_cons_zero, List.getElem?_cons_succ]; rfl) (by kernel_rfl) (by kernel_rfl) (by kernel_rfl) (by intro _ _ _ h; exact h) (Or.inl ⟨by rfl, ?_⟩) (by assumption) ?_
            rotate_left
            · (intro w' hSw; (try dsimp only at hSw); go_simp) <;> with_reducible rfl
            try simp only [Act.put, List.setIfInBounds_toArray, List.set_cons_zero, List.set_cons_succ]
            refine wpAnyH_take (i := 1) (v := ?_) (by simp only [List.getElem?_toArray, List.getElem?_cons_zero, List.getElem?_cons_succ]; rfl) (by kernel_rfl) (by kernel_rfl) (by kernel_rfl) (by intro _ _ _ h; exact h) (Or.inl ⟨by rfl, ?_⟩) (by assumption) ?_
            rotate_left
            · (intro w' hSw; (try dsimp only at hSw); go_simp) <;> with_reducible rfl
            try simp only [Act.put, List.setIfInBounds_toArray, List.set_cons_zero, List.set_cons_succ]
            refine wpAnyH_take (i := 2) (v := ?_) (by simp only [List.getElem?_toArray, List.getElem?_cons_zero, List.getElem?_cons_succ]; rfl) (by kernel_rfl) (by kernel_rfl) (by kernel_rfl) (by intro _ _ _ h; exact h) (Or.inl ⟨by rfl, ?_⟩) (by assumption) ?_
            rotate_left
            · (intro w' hSw; (try dsimp only at hSw); go_simp) <;> with_reducible rfl
            try simp only [Act.put, List.setIfInBounds_toArray, List.set_cons_zero, List.set_cons_succ]
            refine wpAnyH_take (i := 3) (v := ?_) (by simp only [List.getElem?_toArray, List.getElem?_cons_zero, List.getElem?_cons_succ]; rfl) (by kernel_rfl) (by kernel_rfl) (by kernel_rfl) (by intro _ _ _ h; exact h) (Or.inl ⟨by rfl, ?_⟩) (by assumption) ?_
            rotate_left
            · (intro w' hSw; (try dsimp only at hSw); go_simp) <;> with_reducible rfl
            try simp only [Act.put, List.setIfInBounds_toArray, List.set_cons_zero, List.set_cons_succ]
            refine wpAnyH_take (i := 4) (v := ?_) (by simp only [List.getElem?_toArray, List.getElem?_cons_zero, List.getElem?_cons_succ]; rfl) (by kernel_rfl) (by kernel_rfl) (by kernel_rfl) (by intro _ _ _ h; exact h) (Or.inl ⟨by rfl, ?_⟩) (by assumption) ?_
            rotate_left
            · (intro w' hSw; (try dsimp only at hSw); go_simp) <;> with_reducible rfl
            try simp only [Act.put, List.setIfInBounds_toArray, List.set_cons_zero, List.set_cons_succ]
            refine wpAnyH_take (i := 5) (v := ?_) (by simp only [List.getElem?_toArray, List.getElem?_cons_zero, List.getElem?_cons_succ]; rfl) (by kernel_rfl) (by kernel_rfl) (by kernel_rfl) (by intro _ _ _ h; exact h) (Or.inl ⟨by rfl, ?_⟩) (by assumption) ?_
            rotate_left
            · (intro w' hSw; (try dsimp only at hSw); go_simp) <;> with_reducible rfl
            try simp only [Act.put, List.setIfInBounds_toArray, List.set_cons_zero, List.set_cons_succ]
            refine wpAnyH_take (i := 6) (v := ?_) (by simp only [List.getElem?_toArray, List.getElem?_cons_zero, List.getElem?_cons_succ]; rfl) (by kernel_rfl) (by kernel_rfl) (by kernel_rfl) (by intro _ _ _ h; exact h) (Or.inl ⟨by rfl, ?_⟩) (by assumption) ?_
            rotate_left
            · (intro w' hSw; (try dsimp only at hSw); go_simp) <;> with_reducible rfl
            try simp only [Act.put, List.setIfInBounds_toArray, List.set_cons_zero, List.set_cons_succ]
            refine wpAnyH_take (i := 7) (v := ?_) (by simp only [List.getElem?_toArray, List.getElem?_cons_zero, List.getElem?_cons_succ]; rfl) (by kernel_rfl) (by kernel_rfl) (by kernel_rfl) (by intro _ _ _ h; exact h) (Or.inl ⟨by rfl, ?_⟩) (by assumption) ?_
            rotate_left
            · (intro w' hSw; (try dsimp only at hSw); go_simp) <;> with_reducible rfl
            try simp only [Act.put, List.setIfInBounds_toArray, List.set_cons_zero, List.set_cons_succ]
            refine wpAnyH_take (i := 8) (v := ?_) (by simp only [List.getElem?_toArray, List.getElem?_cons_zero, List.getElem?_cons_succ]; rfl) (by kernel_rfl) (by kernel_rfl) (by kernel_rfl) (by intro _ _ _ h; exact h) (Or.inl ⟨by rfl, ?_⟩) (by assumption) ?_
            rotate_left
            · (intro w' hSw; (try dsimp only at hSw); go_simp) <;> with_reducible rfl
            try simp only [Act.put, List.setIfInBounds_toArray, List.set_cons_zero, List.set_cons_succ]
            refine wpAnyH_take (i := 9) (v := ?_) (by simp only [List.getElem?_toArray, List.getElem?_cons_zero, List.getElem?_cons_succ]; rfl) (by kernel_rfl) (by kernel_rfl) (by kernel_rfl) (by intro _ _ _ h; exact h) (Or.inl ⟨by rfl, ?_⟩) (by assumption) ?_
            rotate_left
            · (intro w' hSw; (try dsimp only at hSw); go_simp) <;> with_reducible rfl
            try simp only [Act.put, List.setIfInBounds_toArray, List.set_cons_zero, List.set_cons_succ]
            refine wpAnyH_ready (rs := [10]) (by kernel_rfl) (by simp) ?_
            refine AllReadyH.cons (by simp only [List.getElem?_toArray, List.getElem?_cons_zero, List.getElem?_cons_succ]; rfl) (fun K hK => ?_) AllReadyH.nil
            go_simp
            go_at_call 22
            go_must ((with_reducible refine (HR1.out _ HC.out).mono ?_); rintro e w10 ⟨rfl, hb10⟩; have HC := hid (HC.out.trans (hb10.mono HC.out.size)); clear hb10)
            (try go_wp2_with fail)
            refine hK.out _ _ (HG.out _ HC.out) (fun hHeld => ?_)
            clear hK K
            try simp only [Act.put, List.setIfInBounds_toArray, List.set_cons_zero, List.set_cons_succ]
            refine wpAnyH_take (i := 11) (v := ?_) (by simp only [List.getElem?_toArray, List.getElem?_cons_zero, List.getElem?_cons_succ]; rfl) (by kernel_rfl) (by kernel_rfl) (by kernel_rfl) (by intro _ _ _ h; exact h) (Or.inl ⟨by rfl, ?_⟩) (by assumption) ?_
            rotate_left
            · (intro w' hSw; (try dsimp only at hSw); go_simp) <;> with_reducible rfl
            try simp only [Act.put, List.setIfInBounds_toArray, List.set_cons_zero, List.set_cons_succ]
            refine wpAnyH_take (i := 12) (v := ?_) (by simp only [List.getElem?_toArray, List.getElem?_cons_zero, List.getElem?_cons_succ]; rfl) (by kernel_rfl) (by kernel_rfl) (by kernel_rfl) (by intro _ _ _ h; exact h) (Or.inl ⟨by rfl, ?_⟩) (by assumption) ?_
            rotate_left
            · (intro w' hSw; (try dsimp only at hSw); go_simp) <;> with_reducible rfl
            try simp only [Act.put, List.setIfInBounds_toArray, List.set_cons_zero, List.set_cons_succ]
            refine wpAnyH_take (i := 13) (v := ?_) (by simp only [List.getElem?_toArray, List.getElem?_cons_zero, List.getElem?_cons_succ]; rfl) (by kernel_rfl) (by kernel_rfl) (by kernel_rfl) (by intro _ _ _ h; exact h) (Or.inl ⟨by rfl, ?_⟩) (by assumption) ?_
            rotate_left
            · (intro w' hSw; (try dsimp only at hSw); go_simp) <;> with_reducible rfl
            try simp only [Act.put, List.setIfInBounds_toArray, List.set_cons_zero, List.set_cons_succ]
            refine wpAnyH_take (i := 14) (v := ?_) (by simp only [List.getElem?_toArray, List.getElem?_cons_zero, List.getElem?_cons_succ]; rfl) (by kernel_rfl) (by kernel_rfl) (by kernel_rfl) (by intro _ _ _ h; exact h) (Or.inl ⟨by rfl, ?_⟩) (by assumption) ?_
            rotate_left
            · (intro w' hSw; (try dsimp only at hSw); go_simp) <;> with_reducible rfl
            try simp only [Act.put, List.setIfInBounds_toArray, List.set_cons_zero, List.set_cons_succ]
            refine wpAnyH_take (i := 15) (v := ?_) (by simp only [List.getElem?_toArray, List.getElem?_cons_zero, List.getElem?_cons_succ]; rfl) (by kernel_rfl) (by kernel_rfl) (by kernel_rfl) (by intro _ _ _ h; exact h) (Or.inl ⟨by rfl, ?_⟩) (by assumption) ?_
            rotate_left
            · (intro w' hSw; (try dsimp only at hSw); go_simp) <;> with_reducible rfl
            try simp only [Act.put, List.setIfInBounds_toArray, List.set_cons_zero, List.set_cons_succ]
            refine wpAnyH_take (i := 16) (v := ?_) (by simp only [List.getElem?_toArray, List.getElem?_cons_zero, List.getElem?_cons_succ]; rfl) (by kernel_rfl) (by kernel_rfl) (by kernel_rfl) (by intro _ _ _ h; exact h) (Or.inl ⟨by rfl, ?_⟩) (by assumption) ?_
            rotate_left
            · (intro w' hSw; (try dsimp only at hSw); go_simp) <;> with_reducible rfl
            try simp only [Act.put, List.setIfInBounds_toArray, List.set_cons_zero, List.set_cons_succ]
            refine wpAnyH_take (i := 17) (v := undef) (by simp only [List.getElem?_toArray, List.getElem?_cons_zero, List.getElem?_cons_succ]; rfl) (by kernel_rfl) (by kernel_rfl) (by kernel_rfl) (by intro _ _ _ h; exact h) (Or.inr ⟨by rfl, rfl⟩) (by assumption) ?_
            try simp only [Act.put, List.setIfInBounds_toArray, List.set_cons_zero, List.set_cons_succ]
            refine wpAnyH_take (i := 18) (v := undef) (by simp only [List.getElem?_toArray, List.getElem?_cons_zero, List.getElem?_cons_succ]; rfl) (by kernel_rfl) (by kernel_rfl) (by kernel_rfl) (by intro _ _ _ h; exact h) (Or.inr ⟨by rfl, rfl⟩) (by assumption) ?_
            try simp only [Act.put, List.setIfInBounds_toArray, List.set_cons_zero, List.set_cons_succ]
            refine wpAnyH_take (i := 19) (v := undef) (by simp only [List.getElem?_toArray, List.getElem?_cons_zero, List.getElem?_cons_succ]; rfl) (by kernel_rfl) (by kernel_rfl) (by kernel_rfl) (by intro _ _ _ h; exact h) (Or.inr ⟨by rfl, rfl⟩) (by assumption) ?_
            try simp only [Act.put, List.setIfInBounds_toArray, List.set_cons_zero, List.set_cons_succ]
            refine wpAnyH_take (i := 20) (v := undef) (by simp only [List.getElem?_toArray, List.getElem?_cons_zero, List.getElem?_cons_succ]; rfl) (by kernel_rfl) (by kernel_rfl) (by kernel_rfl) (by intro _ _ _ h; exact h) (Or.inr ⟨by rfl, rfl⟩) (by assumption) ?_
            try simp only [Act.put, List.setIfInBounds_toArray, List.set_cons_zero, List.set_cons_succ]
            refine wpAnyH_take (i := 21) (v := undef) (by simp only [List.getElem?_toArray, List.getElem?_cons_zero, List.getElem?_cons_succ]; rfl) (by kernel_rfl) (by kernel_rfl) (by kernel_rfl) (by intro _ _ _ h; exact h) (Or.inr ⟨by rfl, rfl⟩) (by assumption) ?_
            try simp only [Act.put, List.setIfInBounds_toArray, List.set_cons_zero, List.set_cons_succ]
            refine wpAnyH_take (i := 22) (v := undef) (by simp only [List.getElem?_toArray, List.getElem?_cons_zero, List.getElem?_cons_succ]; rfl) (by kernel_rfl) (by kernel_rfl) (by kernel_rfl) (by intro _ _ _ h; exact h) (Or.inr ⟨by rfl, rfl⟩) (by assumption) ?_
            try simp only [Act.put, List.setIfInBounds_toArray, List.set_cons_zero, List.set_cons_succ]
            refine wpAnyH_take (i := 23) (v := undef) (by simp only [List.getElem?_toArray, List.getElem?_cons_zero, List.getElem?_cons_succ]; rfl) (by kernel_rfl) (by kernel_rfl) (by kernel_rfl) (by intro _ _ _ h; exact h) (Or.inr ⟨by rfl, rfl⟩) (by assumption) ?_
            try simp only [Act.put, List.setIfInBounds_toArray, List.set_cons_zero, List.set_cons_succ]
            refine wpAnyH_take (i := 24) (v := undef) (by simp only [List.getElem?_toArray, List.getElem?_cons_zero, List.getElem?_cons_succ]; rfl) (by kernel_rfl) (by kernel_rfl) (by kernel_rfl) (by intro _ _ _ h; exact h) (Or.inr ⟨by rfl, rfl⟩) (by assumption) ?_
            try simp only [Act.put, List.setIfInBounds_toArray, List.set_cons_zero, List.set_cons_succ]
            refine wpAnyH_take (i := 25) (v := ?_) (by simp only [List.getElem?_toArray, List.getElem?_cons_zero, List.getElem?_cons_succ]; rfl) (by kernel_rfl) (by kernel_rfl) (by kernel_rfl) (by intro _ _ _ h; exact h) (Or.inl ⟨by rfl, ?_⟩) (by assumption) ?_
            rotate_left
            · (intro w' hSw; (try dsimp only at hSw); go_simp) <;> with_reducible rfl
            try simp only [Act.put, List.setIfInBounds_toArray, List.set_cons_zero, List.set_cons_succ]
            refine wpAnyH_take (i := 26) (v := ?_) (by simp only [List.getElem?_toArray, List.getElem?_cons_zero, List.getElem?_cons_succ]; rfl) (by kernel_rfl) (by kernel_rfl) (by kernel_rfl) (by intro _ _ _ h; exact h) (Or.inl ⟨by rfl, ?_⟩) (by assumption) ?_
            rotate_left
            · (intro w' hSw; (try dsimp only at hSw); go_simp) <;> with_reducible rfl
            try simp only [Act.put, List.setIfInBounds_toArray, List.set_cons_zero, List.set_cons_succ]
            refine wpAnyH_done (by kernel_rfl) ?_ _
            go_wp2_with fail
            go_meet
            exact ⟨rfl, HC⟩
          · obtain ⟨r, hqr⟩ : ∃ r, q = r + 1 := ⟨q - 1, by omega⟩
            have hrM : r < M := by omega
            have hw1 : IntKind.i64.wrap ((r : Int) + 1 - 1) = (r : Int) := (IntWalk.i64_in _ (by omega)).trans (by omega)
            have hw2 : IntKind.i64.wrap (r : Int) = (r : Int) := IntWalk.i64_in _ (by omega)
            have hgd : decide ((0 : Int) < (r : Int) + 1) = true := decide_eq_true (by omega)
            have hgd2 : (0 : Int) < (r : Int) + 1 := by omega
            have hr0 : (0 : Int) ≤ (r : Int) := by omega
            have hle := HLE.out r hqr
            obtain ⟨-, -, -, -, -, -, -, -, hrf, hrs⟩ := HHIT.out r hrM
            have hkw := fun W (hW : Below w6.heap.size w6 W) => (⟨HKW.out W hW r hrM 2 (by omega), HKW.out W hW r hrM 3 (by omega), HKW.out W hW r hrM 4 (by omega), HKW.out W hW r hrM 5 (by omega)⟩ : _ ∧ _ ∧ _ ∧ _)
            have hkw2 : ∀ W, Below w6.heap.size w6 W → W.cell? ⟨hb, ho + r * 6 + 2, none⟩ = some (.bool false) ∧ W.cell? ⟨hb, ho + r * 6 + 3, none⟩ = some (.slice (ds.getD r default).1.nu.1 (Fr.dig (ds.getD r default).1.p).length (ds.getD r default).1.nu.2) ∧ W.cell? ⟨hb, ho + r * 6 + 4, none⟩ = some (.bool false) ∧ W.cell? ⟨hb, ho + r * 6 + 5, none⟩ = some (.slice (ds.getD r default).1.de.1 (Fr.dig (ds.getD r default).1.q).length (ds.getD r default).1.de.2) := hkw
            clear hkw
            generalize ds.getD r default = x at *
            obtain ⟨⟨ri, ⟨rb, rn, rm⟩, ⟨ra, rc⟩, ⟨rd, rf⟩, rp, rq⟩, hrq0⟩ := x
            simp only at hkw2 hle hrs
            have hrf2 : Fr.RdF w6 (Value.agg #[.bool false, .slice ra (Fr.dig rp).length rc, .bool false, .slice rd (Fr.dig rq).length rf]) false rp rq := hrf
            have hle2 : mp * rq ≤ rp * mq := hle
            have hdl : decide (rp * mq < mp * rq) = false := decide_eq_false (Nat.not_lt.2 hle2)
            have HR2 := hid (fun W (hW : Below W10.heap.size W10 W) => (by
              have h := Fr.ref_Less (Value.agg #[.bool false, .slice ra (Fr.dig rp).length rc, .bool false, .slice rd (Fr.dig rq).length rf]) (Value.agg #[.bool false, .slice a4 (Fr.dig mp).length c4, .bool false, .slice d4 (Fr.dig mq).length e4]) rp rq mp mq W (hrf2.kept (HC10.out.trans (hW.mono HC10.out.size))) (HS10.out.below hW).2 hrs HSM.out
              rw [hdl] at h
              exact h : Calls Tryz.prog 34 #[(Value.agg #[.bool false, .slice ra (Fr.dig rp).length rc, .bool false, .slice rd (Fr.dig rq).length rf]), (Value.agg #[.bool false, .slice a4 (Fr.dig mp).length c4, .bool false, .slice d4 (Fr.dig mq).length e4])] W (Ret W (.bool false))))
            have HG := hid (fun W (hW : Below W10.heap.size W10 W) => (⟨(HS10.out.below hW).1.cell 0 rfl, (HS10.out.below hW).1.cell 1 rfl, (HS10.out.below hW).1.cell 2 rfl, (HS10.out.below hW).1.cell 3 rfl, (HM10.out.below hW HM10.out.lt).cell 2 rfl, (HM10.out.below hW HM10.out.lt).cell 3 rfl, (HM10.out.below hW HM10.out.lt).cell 4 rfl, (HM10.out.below hW HM10.out.lt).cell 5 rfl, hkw2 W (HC10.out.trans (hW.mono HC10.out.size))⟩ : W.cell? ⟨s9, 0, none⟩ = some (.bool false) ∧ W.cell? ⟨s9, 1, none⟩ = some (.slice a4 (Fr.dig mp).length c4) ∧ W.cell? ⟨s9, 2, none⟩ = some (.bool false) ∧ W.cell? ⟨s9, 3, none⟩ = some (.slice d4 (Fr.dig mq).length e4) ∧ W.cell? ⟨wr.heap.size, 2, none⟩ = some (.bool false) ∧ W.cell? ⟨wr.heap.size, 3, none⟩ = some (.slice na (Fr.dig mp).length nc) ∧ W.cell? ⟨wr.heap.size, 4, none⟩ = some (.bool false) ∧ W.cell? ⟨wr.heap.size, 5, none⟩ = some (.slice da (Fr.dig mq).length dc) ∧ W.cell? ⟨hb, ho + r * 6 + 2, none⟩ = some (.bool false) ∧ W.cell? ⟨hb, ho + r * 6 + 3, none⟩ = some (.slice ra (Fr.dig rp).length rc) ∧ W.cell? ⟨hb, ho + r * 6 + 4, none⟩ = some (.bool false) ∧ W.cell? ⟨hb, ho + r * 6 + 5, none⟩ = some (.slice rd (Fr.dig rq).length rf)))
            clear hle hle2 hrf hrf2 hrs hkw2 hdl
            generalize (Fr.dig mp).length = l1 at *
            generalize (Fr.dig mq).length = l2 at *
            generalize (Fr.dig rp).length = g1 at *
            generalize (Fr.dig rq).length = g2 at *
            have hrMi : (r : Int) < (M : Int) := by omega
            subst hqr
            go_region_held3 (fun w' => w'.cell? ⟨s9, 0, none⟩ = some (.bool false) ∧ w'.cell? ⟨s9, 1, none⟩ = some (.slice a4 l1 c4) ∧ w'.cell? ⟨s9, 2, none⟩ = some (.bool false) ∧ w'.cell? ⟨s9, 3, none⟩ = some (.slice d4 l2 e4) ∧ w'.cell? ⟨wr.heap.size, 2, none⟩ = some (.bool false) ∧ w'.cell? ⟨wr.heap.size, 3, none⟩ = some (.slice na l1 nc) ∧ w'.cell? ⟨wr.heap.size, 4, none⟩ = some (.bool false) ∧ w'.cell? ⟨wr.heap.size, 5, none⟩ = some (.slice da l2 dc) ∧ w'.cell? ⟨hb, ho + r * 6 + 2, none⟩ = some (.bool false) ∧ w'.cell? ⟨hb, ho + r * 6 + 3, none⟩ = some (.slice ra g1 rc) ∧ w'.cell? ⟨hb, ho + r * 6 + 4, none⟩ = some (.bool false) ∧ w'.cell? ⟨hb, ho + r * 6 + 5, none⟩ = some (.slice rd g2 rf))
              (first | exact HG.out _ HC.out | go_keep)
              (first | (go_at_call 22; go_must ((with_reducible refine (HR1.out _ HC.out).mono ?_); rintro e w10 ⟨rfl, hb10⟩; have HC := hid (HC.out.trans (hb10.mono HC.out.size)); clear hb10)) | (go_at_call 34; go_must ((with_reducible refine (HR2.out _ HC.out).mono ?_); rintro e w10 ⟨rfl, hb10⟩; have HC := hid (HC.out.trans (hb10.mono HC.out.size)); clear hb10)))
            all_goals
              go_wp2_with fail
              go_meet
              exact ⟨rfl, HC⟩
        case rest =>
          obtain ⟨rfl, HC11⟩ := hcut
          obtain ⟨W11, rfl⟩ : ∃ W11, W11 = wc := ⟨wc, rfl⟩
          have HX11 := hid (HX10.out.below HC11.out HX10.out.lt)
          have HC12 := hid (HC10.out.trans (HC11.out.mono HC10.out.size))
          have hz12 := HC12.out.size
          have hq11 := HQB.out.below HC12.out HQB.out.lt
          have x0 := hq11.cell 0 rfl
          have x1 := hq11.cell 1 rfl
          have x2 := hq11.cell 2 rfl
          have y0 := HX11.out.cell 0 rfl
          have y1 := HX11.out.cell 1 rfl
          have y2 := HX11.out.cell 2 rfl
          clear hq11 HM10 HS10 HX10
          go_wp2_with fail
          with_reducible refine (HCO.out _ HU.out _ HC12.out).mono ?_
          clear x0 x1 x2 y0 y1 y2
          rintro e w12 ⟨rfl, hb12⟩
          have HX12 := hid (HX11.out.below hb12 HX11.out.lt)
          have HC13 := hid (HC12.out.trans (hb12.mono HC12.out.size))
          clear hb12 HX11 HC11 HC12
          have hz13 := HC13.out.size
          have y0 := HX12.out.cell 0 rfl
          have y1 := HX12.out.cell 1 rfl
          have y2 := HX12.out.cell 2 rfl
          have hzx := HX12.out.lt
          have HB13 := hid ((Below.refl w12.heap.size w12).alloc (Nat.le_refl _) (.cells #[.int .i64 ti, .string tn, .slice none 0 0] 24))
          have HY13 := hid (BoxN.new w12 #[.int .i64 ti, .string tn, .slice none 0 0] 24)
          have hz14 : w12.heap.size < (w12.alloc (.cells #[.int .i64 ti, .string tn, .slice none 0 0] 24)).heap.size := by simp
          go_wp2_with fail
          generalize w12.alloc (.cells #[.int .i64 ti, .string tn, .slice none 0 0] 24) = W13 at *
          subst hLC
          clear y0 y1 y2 HKK
          obtain ⟨i0, hi, hy0, hy1, hy2⟩ := info_parts info_col
          go_loopg [102] lc (fun N i wr => ∃ (p : Nat) (y : Value), i = .int .i64 (p : Int) ∧ p + N = lc ∧ Hid (GrowSt w12 W13 wr w12.heap.size W13.heap.size 24 (fun s => #[.int .i64 ti, .string tn, s]) 30 2 y p (flatK 2 p (coF (cutL tx) fun k => cutV (cv k)))))
          case atStart => exact ⟨0, .slice none 0 0, rfl, by omega, hid ⟨HB13.out, HY13.out, World.ownsRow_nil _ _ _ _, Nat.le_refl _, fun _ _ _ => rfl⟩⟩
          case round =>
            obtain ⟨p, y, rfl, hpL, HST⟩ := hrel
            have hlo := HST.out.low
            have hwr2 := HST.out.bel.size
            have HB15 := hid (HC13.out.trans (HST.out.bel.mono hz13))
            by_cases hpp : 0 < gk
            · have hpq : p < lc := by omega
              obtain ⟨ba, oa, rfl, hba, hcella⟩ := HUR.out (by omega)
              have k1 : wr.cell? ⟨ba, oa + p * 2, none⟩ = some (.string (tx.getD p Co.z).name) := (HB15.out.cell (p := ⟨ba, oa + p * 2, none⟩) hba).trans (hcella p hpq 0 (by omega))
              have k2 : wr.cell? ⟨ba, oa + p * 2 + 1, none⟩ = some (cv p) := (HB15.out.cell (p := ⟨ba, oa + p * 2 + 1, none⟩) hba).trans (hcella p hpq 1 (by omega))
              have hcp := HRS.out p hpq
              have HPU := hid (cut_push tx cv p)
              obtain ⟨ca, ck, hcq, hck1, hckm, hcr⟩ := HUK.out p hpq
              obtain ⟨b2, o2, rfl, -, -⟩ := hcr hcp
              rw [hcq] at k2 HPU
              clear hcella hcr hcq
              generalize tx.getD p Co.z = x at *
              obtain ⟨xn, xc⟩ := x
              simp only at k1 k2 hcp hck1 HPU
              obtain ⟨m, hm⟩ : ∃ m, xc.length = m + 1 := ⟨xc.length - 1, by omega⟩
              obtain ⟨k', rfl⟩ : ∃ k', ck = k' + 1 := ⟨ck - 1, by omega⟩
              rw [hm] at k2 hck1 HPU
              obtain ⟨cp, hif⟩ : ∃ cp : Option Addr, (if k' = 0 then some ⟨b2, o2, none⟩ else some ⟨b2, o2 + 2, none⟩) = cp := ⟨_, rfl⟩
              have HPV : Hid (flatK 2 (p + 1) (coF (cutL tx) fun k => cutV (cv k)) = flatK 2 p (coF (cutL tx) fun k => cutV (cv k)) ++ [.string xn, .slice cp m k']) := hid (by rw [← hif]; exact HPU.out)
              have hsl : (1 : Int) ≤ (m : Int) + 1 := by omega
              clear HPU hm hcp
              unfold maxLen at hckm
              have HCX := hid (BoxN.new wr #[.string xn, .slice (some ⟨b2, o2, none⟩) (m + 1) (k' + 1)] 30)
              have HST1 := hid (HST.out.later (W' := wr.alloc (.cells #[.string xn, .slice (some ⟨b2, o2, none⟩) (m + 1) (k' + 1)] 30)) ((Below.refl _ _).alloc (Nat.le_refl _) _) hwr2)
              have hzc : wr.heap.size < (wr.alloc (.cells #[.string xn, .slice (some ⟨b2, o2, none⟩) (m + 1) (k' + 1)] 30)).heap.size := by simp
              go_upto_region 20 with fail
              clear k1 k2
              generalize wr.alloc (.cells #[.string xn, .slice (some ⟨b2, o2, none⟩) (m + 1) (k' + 1)] 30) = wp at *
              have c0 := HCX.out.cell 0 rfl
              have c1 := HCX.out.cell 1 rfl
              have HOWN := hid HST1.out.own
              obtain ⟨ya, yk, rfl⟩ := own_slice HST1.out.own
              have HO1 := hid ((HOWN.out.alloc (.cells #[.string xn, .slice cp m k'] 30)).drew)
              have HN1 := hid (show BoxN (wp.alloc (.cells #[.string xn, .slice cp m k'] 30)).drew wp.heap.size 30 #[.string xn, .slice cp m k'] from BoxN.new wp _ _)
              have hwp := HST1.out.bel.size
              have hlp := HST1.out.low
              have HS1 := hid (HST1.out.later (W' := (wp.alloc (.cells #[.string xn, .slice cp m k'] 30)).drew) (by have h1 := Below.refl wp.heap.size wp; repeat' (first | (with_reducible exact Below.refl _ _) | (with_reducible assumption) | (with_reducible refine below_drewN ?_) | (with_reducible refine Below.alloc ?_ ?_ _) | (with_reducible refine Below.drew ?_) | (with_reducible refine Below.setCell ?_ ?_ _) | (with_reducible refine Below.trans ?_ (Below.mono (by with_reducible assumption) ?_)) | go_size)) hwp)
              have s2 : wp.cell? ⟨w12.heap.size, 2, none⟩ = some (.slice ya p yk) := HST1.out.box.cell 2 rfl
              have sf2 := HST1.out.box.frozen 2
              have s3 : (wp.alloc (.cells #[.string xn, .slice cp m k'] 30)).cell? ⟨w12.heap.size, 2, none⟩ = some (.slice ya p yk) := HS1.out.box.cell 2 rfl
              go_region_law (first
                | ((refine step_append_form _ rfl (.tmp 107) (.tmp 114) 22 22 rfl W13.heap.size 30 30 i0 (.agg #[.string ⟨#[]⟩, .slice none 0 0]) 2 40 Tryz.underlying22 Tryz.underlying22 hi hy0 hy1 hy2 rfl (by decide) (.slice ya p yk) p _ rfl HO1.out (some ⟨wp.heap.size, 0, none⟩) 1 1 [.string xn, .slice cp m k'] rfl rfl (fun _ => ⟨_, rfl, World.news_of_block HN1.out⟩) (by intro u hu; simp at hu; rcases hu with rfl | rfl <;> rfl) (by omega) (by unfold maxLen; omega) (by omega) (by simp; omega) ?_); intro p7 cap7 w7 hown7 hg7 hat7 hlt7; have hbx7 := HS1.out.box.grown hg7 (fun e => by have := HOWN.out.lt _ e.symm; omega); have q1 : w7.cell? ⟨w12.heap.size, 2, none⟩ = some (.slice ya p yk) := hbx7.cell 2 rfl; have fq1 := hbx7.frozen 2; have HG7 := hid hg7; have HOWN7 := hid hown7; clear hown7 hg7 hat7 hbx7))
              all_goals
                clear q1 fq1 s3 s2 sf2 c0 c1
                go_wp2
                go_roundg (gk - 1)
                case rel => exact ⟨p + 1, _, by go_num, by omega, hid (by rw [HPV.out]; exact HS1.out.push HOWN7.out HG7.out 2 rfl (by omega) (by omega))⟩
                case measure => omega
            · obtain rfl : gk = 0 := by omega
              obtain rfl : p = lc := by omega
              have HCU : Hid (RdCo wr (· < wr.heap.size) y (cutL tx)) := hid (by
                have hb15 := HB15.out
                have ho := HST.out.own
                have hin := (inK_of_owns ho).more (S' := (· < wr.heap.size)) fun b hb => (ho.lt b hb).2
                rw [HLC.out] at hin
                exact cut_read (fun k hk => HRS.out k (by rw [HLC.out]; exact hk)) (fun k hk => (HUK.out k (by rw [HLC.out]; exact hk)).keep fun p (hp : p.block < w6.heap.size) => hb15.cell (p := p) hp) hin fun b (hb : b < w6.heap.size) => Nat.lt_of_lt_of_le hb hb15.size)
              obtain ⟨ya, yk, rfl⟩ := own_slice HST.out.own
              have hq15 := HQB.out.below HB15.out HQB.out.lt
              have x0 := hq15.cell 0 rfl
              have x1 := hq15.cell 1 rfl
              have x2 := hq15.cell 2 rfl
              have y0 : wr.cell? ⟨w12.heap.size, 0, none⟩ = some (.int .i64 ti) := HST.out.box.cell 0 rfl
              have y1 : wr.cell? ⟨w12.heap.size, 1, none⟩ = some (.string tn) := HST.out.box.cell 1 rfl
              have y2 : wr.cell? ⟨w12.heap.size, 2, none⟩ = some (.slice ya p yk) := HST.out.box.cell 2 rfl
              clear hq15
              go_wp2_with fail
              with_reducible refine (HCC.out _ _ HCU.out HB15.out).mono ?_
              clear x0 x1 x2 y0 y1 y2
              rintro e w16 ⟨rfl, hb16⟩
              have HB16 := hid (HB15.out.trans (hb16.mono HB15.out.size))
              clear hb16
              have hd1 : decide ((C : Int) < (K : Int)) = false := decide_eq_false (by omega)
              have hw1 : IntKind.i64.wrap ((C : Int) - 1) = (C : Int) - 1 := IntWalk.i64_in _ (by omega)
              have hd2 : decide ((K : Int) < (C : Int) - 1) = false := decide_eq_false (by omega)
              go_wp2_with fail
              go_roundg (gk - 1)
              case rel => exact ⟨q + 1, by go_num, by omega, HB16⟩
              case measure => omega
      · obtain rfl : gk = 0 := by omega
        go_wp2_with fail
        with_reducible refine (law36_awake _ HT6.out).mono ?_
        rintro e w7 ⟨rfl, hb7⟩
        go_wp2_with fail
        go_ret
        exact ⟨rfl, HB6.out.trans ((HB.out.trans (hb7.mono hwr)).mono HB6.out.size)⟩
  · have HLI := hid (kit_Light a n c w hnm)
    rw [decide_eq_false hg] at HLI
    go_enter Tryz.func7, Tryz.ntmps7
    generalize hLA : Code.loop _ = LA
    go_wp2_with fail
    with_reducible refine HLI.out.mono ?_
    rintro e w0 ⟨rfl, rfl⟩
    clear HLI
    go_wp2_with fail
    with_reducible refine (law36_awake _ HT.out).mono ?_
    rintro e w1 ⟨rfl, hb1⟩
    go_wp2_with fail
    go_ret
    exact ⟨rfl, hb1⟩

end Go.Proofs.YtfcccldofaleoaaGreatDoor
