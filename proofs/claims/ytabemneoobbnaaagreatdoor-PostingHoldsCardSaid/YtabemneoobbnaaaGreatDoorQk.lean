/- The walk of PostingHolds. -/
import Derived.Test.YtabemneoobbnaaaGreatDoorQi
import Derived.Test.YtabemneoobbnaaaGreatDoorQj
import Derived.Test.YtabemneoobbnaaaGreatDoorOi
import Derived.Test.YtabemneoobbnaaaGreatDoorSn
import Derived.Deep.Cut
import Derived.Deep.CutRange
import Derived.Deep.DeepCutAuto
namespace Go.Proofs.YtabemneoobbnaaaGreatDoor
open Go.RowKit

/-- the sum and the round's number: what is kept in a round of PostingHolds -/
theorem rdU_later {w w1 : World} {sa : Option Addr} {sn sc : Nat} (h : RdU w w.heap.size sa sn sc) (hb1 : Below w.heap.size w w1) : RdU w1 w1.heap.size sa sn sc := by
  obtain ⟨h1, h2, h3⟩ := h
  refine ⟨h1, h2, fun hp => ?_⟩
  obtain ⟨b, o, e, hlt, hc⟩ := h3 hp
  exact ⟨b, o, e, by have := hb1.size; omega, fun i hi => by
    obtain ⟨x, hx, hcx⟩ := hc i hi
    exact ⟨x, hx, (hb1.cell (p := ⟨b, o + i, none⟩) hlt).trans hcx⟩⟩

set_option maxRecDepth 100000 in
set_option maxHeartbeats 4000000 in
theorem law18_holds (sa : Option Addr) (sn sc : Nat) (w : World) (hs : RdU w w.heap.size sa sn sc) (hT : Tabs w) :
    Calls Tryz.prog 4 #[.slice sa sn sc] w (Ret w (.bool true)) := by
  have HS := hid hs
  have HT := hid hT
  clear hs hT
  go_enter Tryz.func4, Tryz.ntmps4
  generalize hLA : Code.loop _ = LA
  go_wp2_with fail
  with_reducible refine (law18_sane _).mono ?_
  rintro e w1 ⟨rfl, hb1⟩
  have HB1 := hid hb1
  have HU1 := hid (rdU_later HS.out hb1)
  have hz1 := hb1.size
  clear hb1
  go_wp2_with fail
  with_reducible refine (mill_New sa sn sc _ HU1.out).mono ?_
  rintro e w2 ⟨rfl, hd2, hb2⟩
  have HD2 := hid hd2
  have HB2 := hid (HB1.out.trans (hb2.mono HB1.out.size))
  clear hd2 hb2 HU1
  generalize hgg : w1.heap.size = g at *
  clear hgg
  have hLL := hid (dice_List g 4 3 6 _ HD2.out (by omega) (by omega) (by omega))
  rw [show (((4 : Nat)) : Int) = 4 from rfl, show (((3 : Nat)) : Int) = 3 from rfl, show (((6 : Nat)) : Int) = 6 from rfl] at hLL
  go_wp2_with fail
  with_reducible refine hLL.out.mono ?_
  clear hLL
  rintro e w3 ⟨ts, ta, tc, rfl, hrd, hok, hd3, hr3⟩
  have hlv := listV_of hok (by omega) (by omega) (by omega)
  have HLV := hid hlv
  have HB3 := hid (HB2.out.trans (hr3.below (B' := w.heap.size) (by omega) (HB2.out.size)))
  have HRD := hid (hrd.more (S' := (· < w3.heap.size)) fun b hb => And.right hb)
  have hT3 : Tabs w3 := HT.out.below HB3.out
  have HBU := hid (posting_Build _ ts w3.heap.size w3 hlv HRD.out (Nat.le_refl _) hT3)
  clear hrd hok hd3 hr3 hT3 hlv
  have HTL : Hid (ts.length ≤ 1024) := hid HLV.out.1
  generalize htl : ts.length = L at *
  have HTLE := hid htl
  clear htl
  go_wp2_with fail
  with_reducible refine HBU.out.mono ?_
  rintro e w4 ⟨ev, vv, lv, rfl, hrx, hb4⟩
  have HRX4 := hid (hrx.more (S' := (· < w4.heap.size)) fun b hb => And.right hb)
  have HB4 := hid (HB3.out.trans (hb4.mono HB3.out.size))
  have HRT4 := hid (HRD.out.keep (w' := w4) fun p hp => hb4.cell (p := p) hp)
  have hz4 := hb4.size
  clear hrx hb4 HBU
  obtain ⟨ea, ec, rfl, -⟩ := HRX4.out.ents
  obtain ⟨va', vc', rfl, -⟩ := HRX4.out.vals
  obtain ⟨lf, ⟨la, lc, rfl, -⟩, -⟩ := HRX4.out.lists
  have HOK := hid (cvsL_ok HLV.out)
  have hnl : (indexOf (cvsL ts)).ents.length = (refsL ts).length := (ents_len _).trans (cvsL_len ts)
  have HCN := hid (cvsL_len ts)
  rw [hnl]
  rw [hnl] at HRX4
  have hn64 : (refsL ts).length ≤ 65536 := by
    have := HOK.out.many
    rw [HCN.out] at this
    exact this
  clear hnl
  have HRF : Hid (∀ W, Below w4.heap.size w4 W → Calls Tryz.prog 19 #[.slice ta L tc] W (fun e w' => ∃ a c, e = .returned (.slice a (refsL ts).length c) ∧ Below W.heap.size W w')) := hid (fun W hW => (ref_Refs _ ts w4.heap.size W HLV.out (((HRT4.out.more (S' := (· < w4.heap.size)) fun b hb => (show b < w4.heap.size by have h : b < w3.heap.size := hb; omega)).keep fun p (hp : p.block < w4.heap.size) => hW.cell (p := p) hp)) hW.size).mono fun e w' ⟨a, c, h1, _, h2⟩ => ⟨a, c, h1, h2⟩)
  generalize hrn : (refsL ts).length = n at *
  have HRN := hid hrn
  clear hrn
  generalize (indexOf (cvsL ts)).vals.length = n2 at *
  generalize (indexOf (cvsL ts)).lists.length = n3 at *
  have HEC : Hid (∀ q, q < n → ∃ b o, ea = some ⟨b, o, none⟩ ∧ b < w4.heap.size ∧ w4.cell? ⟨b, o + q * 3, none⟩ = some (.int .i64 ((cvsL ts).getD q Cv.z).1.1) ∧ w4.cell? ⟨b, o + q * 3 + 1, none⟩ = some (.int .i64 (((cvsL ts).getD q Cv.z).1.2 : Int)) ∧ w4.cell? ⟨b, o + q * 3 + 2, none⟩ = some (.int .i64 (((cvsL ts).getD q Cv.z).2.length : Int))) := hid (fun q hq => by
    obtain ⟨a, c, e, -, -, hr⟩ := HRX4.out.ents
    obtain ⟨rfl, -, rfl⟩ := Value.slice.inj e
    have hl : (indexOf (cvsL ts)).ents.length = n := (ents_len _).trans HCN.out
    rw [hl] at hr
    obtain ⟨b, o, e2, hb, hc⟩ := hr (by omega)
    have e3 : (indexOf (cvsL ts)).ents.getD q ((0, 0), 0) = (((cvsL ts).getD q Cv.z).1, ((cvsL ts).getD q Cv.z).2.length) := ents_at (by rw [HCN.out]; exact hq)
    refine ⟨b, o, e2, hb, (hc q hq 0 (by omega)).trans ?_, (hc q hq 1 (by omega)).trans ?_, (hc q hq 2 (by omega)).trans ?_⟩
    · simp only [entF, e3]; rfl
    · simp only [entF, e3]; rfl
    · simp only [entF, e3]; rfl)
  have HRXW := hid (fun W (hW : Below w4.heap.size w4 W) => HRX4.out.keep (w' := W) fun p hp => hW.cell (p := p) hp)
  have HPV := hid (fun q (hq : q < n) W (hW : Below w4.heap.size w4 W) => posting_Values (cvsL ts) HOK.out _ _ _ w4.heap.size q W (by rw [HCN.out]; exact hq) (HRXW.out W hW) hW.size)
  have HCO := hid (fun q (hq : q < n) W (hW : Below w4.heap.size w4 W) => (show Calls Tryz.prog 24 #[.agg #[.slice ea n ec, .slice va' n2 vc', .slice la n3 lc], .agg #[.int .i64 ((cvsL ts).getD q Cv.z).1.1, .int .i64 (((cvsL ts).getD q Cv.z).1.2 : Int)]] W (Ret W (.int .i64 (q : Int))) from by
    have h := posting_Column (indexOf (cvsL ts)) _ _ _ ((cvsL ts).getD q Cv.z).1.1 (((cvsL ts).getD q Cv.z).1.2 : Int) w4.heap.size W (HRXW.out W hW) hW.size (by rw [show (indexOf (cvsL ts)).ents.length = n from (ents_len _).trans HCN.out]; omega)
    have hf : findR (refsE (indexOf (cvsL ts)).ents) (((cvsL ts).getD q Cv.z).1.1, (((cvsL ts).getD q Cv.z).1.2 : Int)) 0 = (q : Int) := find_at HOK.out (by rw [HCN.out]; exact hq)
    rwa [hf] at h))
  have HSZ := hid (fun z W (hW : Below w4.heap.size w4 W) => posting_Sizes (.slice ea n ec) va' la n2 vc' n3 lc (entsOf (cvsL ts)) z z w4.heap.size W (HRXW.out W hW).ents hW.size (by rw [ents_len, HCN.out]; exact hn64))
  have HSH := hid (fun q (hq : q < n) => sizes_has (cs := cvsL ts) (i := q) (by rw [HCN.out]; exact hq))
  have HEN := hid (fun W (hW : Below w4.heap.size w4 W) => (show Calls Tryz.prog 27 #[.agg #[.slice ea n ec, .slice va' n2 vc', .slice la n3 lc]] W (Ret W (.int .i64 ((sizesSum (cvsL ts) n : Nat) : Int))) from by
    have e1 := lists_sum HOK.out
    rw [HCN.out] at e1
    have h := posting_Entries (indexOf (cvsL ts)) _ _ _ w4.heap.size W (HRXW.out W hW) hW.size (by
      rw [e1]
      have := sizesSum_le HOK.out.len n
      omega)
    rwa [e1] at h))
  have HGET := hid (fun q (hq : q < n) W (hW : Below w4.heap.size w4 W) => (show Calls Tryz.prog 20 #[.slice ta L tc, .agg #[.int .i64 ((cvsL ts).getD q Cv.z).1.1, .int .i64 (((cvsL ts).getD q Cv.z).1.2 : Int)]] W (GetP W w4.heap.size ((colsL ts).getD q Co.z)) from by
    have e1 : (refsL ts).getD q (0, 0) = ((cvsL ts).getD q Cv.z).1 := by
      have hq2 : q < (cvsL ts).length := by rw [HCN.out]; exact hq
      rw [← cvsL_refs]
      simp [List.getD, hq2]
    have h := ref_Get_at (.slice ta L tc) ts w4.heap.size q W HLV.out (by rw [HRN.out]; exact hq) ((HRT4.out.more (S' := (· < w4.heap.size)) fun b hb => (show b < w4.heap.size by have h : b < w3.heap.size := hb; omega)).keep fun p (hp : p.block < w4.heap.size) => hW.cell (p := p) hp) hW.size
    rwa [e1] at h))
  have HCOL := hid (fun q (hq : q < n) => (show valuesL ((colsL ts).getD q Co.z).cells = ((cvsL ts).getD q Cv.z).2 ∧ ((colsL ts).getD q Co.z).cells.length ≤ 1048576 from by
    have hq2 : q < (refsL ts).length := by rw [HRN.out]; exact hq
    refine ⟨by simp [cvsL, cvsK, cvOf, List.getD, hq2], ?_⟩
    obtain ⟨i, k, hi, hk, -, h4⟩ := refs_at ts q hq2
    rw [h4]
    obtain ⟨m, hm, hc⟩ := (HLV.out.2.1 _ (getD_mem hi Ta.z)).2.2.2.2
    have := (hc _ (getD_mem hk Co.z)).2.1
    omega))
  have HLI := hid (fun q (hq : q < n) (s : ByteArray) (hs : s ∈ ((cvsL ts).getD q Cv.z).2) W (hW : Below w4.heap.size w4 W) => (show Calls Tryz.prog 26 #[.agg #[.slice ea n ec, .slice va' n2 vc', .slice la n3 lc], .string s] W (fun e w' => ∃ a c xs, q ∈ xs ∧ e = .returned (.tuple #[.slice (some ⟨a, 0, none⟩) xs.length c, .bool true]) ∧ w'.ownsRow W.heap.size 3 1 (.slice (some ⟨a, 0, none⟩) xs.length c) xs.length (natsV xs) ∧ xs.length ≤ 65536 ∧ Below W.heap.size W w') from by
    have hq2 : q < (cvsL ts).length := by rw [HCN.out]; exact hq
    have hvm := val_mem hq2 hs
    obtain ⟨i, hi, hix, hat⟩ := idx_of_mem hvm
    have hil : i < (indexOf (cvsL ts)).lists.length := by simpa [indexOf] using hi
    have hli : (indexOf (cvsL ts)).lists.getD i [] = listOfV (cvsL ts) s := by rw [← hat]; simp [indexOf, List.getD, hi]
    have hll := listOfV_len (cvsL ts) s
    rw [HCN.out] at hll
    have hpos := listOfV_pos hvm
    have h := posting_List (indexOf (cvsL ts)) _ _ _ w4.heap.size W (HRXW.out W hW) hW.size s i hix hil (by show 0 < (setOfL (allOf (cvsL ts))).length; omega) (by rw [hli]; exact hpos) (by rw [hli]; omega)
    rw [hli] at h
    exact h.mono fun e w' ⟨a, c, h1, h2, h3⟩ => ⟨a, c, _, list_has hq2 hs, h1, h2, by omega, h3⟩))
  have HLEN := hid (fun q (hq : q < n) => HOK.out.len _ (getD_mem (l := cvsL ts) (i := q) (by rw [HCN.out]; exact hq) Cv.z))
  have HSS := hid (fun q (hq : q < n) => sizesSum_succ (cvsL ts) (q := q) (by rw [HCN.out]; exact hq))
  have HSL := hid (fun q => sizesSum_le HOK.out.len q)
  have HX5 := hid (BoxN.new w4 #[.slice ea n ec, .slice va' n2 vc', .slice la n3 lc] 40)
  have HB45 := hid ((Below.refl w4.heap.size w4).alloc (Nat.le_refl _) (.cells #[.slice ea n ec, .slice va' n2 vc', .slice la n3 lc] 40))
  have hz5 : w4.heap.size < (w4.alloc (.cells #[.slice ea n ec, .slice va' n2 vc', .slice la n3 lc] 40)).heap.size := by simp
  have x0 := HX5.out.cell 0 rfl
  go_upto_region 6 with fail
  generalize w4.alloc (.cells #[.slice ea n ec, .slice va' n2 vc', .slice la n3 lc] 40) = W5 at *
  have hz5b := HB45.out.size
  go_region_held3 (fun w' => w'.cell? ⟨w4.heap.size, 0, none⟩ = some (.slice ea n ec))
    (first | exact s0 | go_keep)
    ((go_at_call 19; go_must (((with_reducible refine (HRF.out _ (by have h1 := HB45.out; repeat' (first | (with_reducible exact Below.refl _ _) | (with_reducible assumption) | (with_reducible refine below_drewN ?_) | (with_reducible refine Below.alloc ?_ ?_ _) | (with_reducible refine Below.drew ?_) | (with_reducible refine Below.setCell ?_ ?_ _) | (with_reducible refine Below.trans ?_ (Below.mono (by with_reducible assumption) ?_)) | go_size))).mono ?_); rintro e w6 ⟨fa, fc, rfl, hb6⟩; have HB6 : Hid (Below W5.heap.size W5 w6) := hid (by have h1 := Below.refl W5.heap.size W5; repeat' (first | (with_reducible exact Below.refl _ _) | (with_reducible assumption) | (with_reducible refine below_drewN ?_) | (with_reducible refine Below.alloc ?_ ?_ _) | (with_reducible refine Below.drew ?_) | (with_reducible refine Below.setCell ?_ ?_ _) | (with_reducible refine Below.trans ?_ (Below.mono (by with_reducible assumption) ?_)) | go_size)); have s0 := cell_later HB6.out x0; clear hb6))))
  all_goals
    clear x0 s0
    have HX6 := hid (HX5.out.below HB6.out HX5.out.lt)
    have HBW := hid (HB45.out.trans (HB6.out.mono (by omega)))
    have hz6 := HB6.out.size
    have hx6l := HX6.out.lt
    have x0 := HX6.out.cell 0 rfl
    clear HB6 HB45 HX5 HRF
    go_wp2_with fail
    clear x0
    subst hLA
    go_loopg [7, 48] n (fun N v i wr => ∃ q : Nat, q + N = n ∧ i = .int .i64 (q : Int) ∧ v = .int .i64 ((sizesSum (cvsL ts) q : Nat) : Int) ∧ Hid (Below w6.heap.size w6 wr))
    case atStart => exact ⟨0, by omega, rfl, by rw [sizesSum_zero]; rfl, hid (Below.refl _ _)⟩
    case round =>
      obtain ⟨q, hq, rfl, rfl, HB⟩ := hrel
      by_cases hp : 0 < gk
      · obtain ⟨b, o, rfl, hb, e0, e1, e2⟩ := HEC.out q (by omega)
        have hBR : Below w4.heap.size w4 wr := HBW.out.trans (HB.out.mono (by omega))
        have HBR := hid hBR
        have k0 := (hBR.cell (p := ⟨b, o + q * 3, none⟩) hb).trans e0
        have k1 := (hBR.cell (p := ⟨b, o + q * 3 + 1, none⟩) hb).trans e1
        have k2 := (hBR.cell (p := ⟨b, o + q * 3 + 2, none⟩) hb).trans e2
        have hrz := hBR.size
        have hrz6 := HB.out.size
        obtain ⟨hcol, hcl⟩ := HCOL.out q (by omega)
        have hlq := HLEN.out q (by omega)
        have hsq := HSS.out q (by omega)
        have hsl := HSL.out q
        have HGQ := hid (HGET.out q (by omega))
        have HPQ := hid (HPV.out q (by omega))
        have HCQ := hid (HCO.out q (by omega))
        have HLQ := hid (HLI.out q (by omega))
        have HSQ := hid (HSH.out q (by omega))
        have HCE := hid hcol
        have HSE := hid hsq
        clear hBR e0 e1 e2 hcol hsq
        generalize (cvsL ts).getD q Cv.z = c at *
        generalize (colsL ts).getD q Co.z = x at *
        obtain ⟨⟨ri, rk⟩, X⟩ := c
        obtain ⟨xn, xcl⟩ := x
        simp only at k0 k1 k2 hcl hlq
        generalize hSq : sizesSum (cvsL ts) q = S at *
        clear hSq
        generalize hxl : X.length = xl at *
        have HXL := hid hxl
        clear hxl
        have HEB := hid (BoxN.new wr #[.int .i64 ri, .int .i64 (rk : Int), .int .i64 (xl : Int)] 49)
        have HB7 := hid (HBR.out.alloc hrz (.cells #[.int .i64 ri, .int .i64 (rk : Int), .int .i64 (xl : Int)] 49))
        have hz7 : wr.heap.size < (wr.alloc (.cells #[.int .i64 ri, .int .i64 (rk : Int), .int .i64 (xl : Int)] 49)).heap.size := by simp
        have HX7 := hid ((HX6.out.below HB.out hx6l).alloc (.cells #[.int .i64 ri, .int .i64 (rk : Int), .int .i64 (xl : Int)] 49))
        have HB67 := hid (HB.out.alloc hrz6 (.cells #[.int .i64 ri, .int .i64 (rk : Int), .int .i64 (xl : Int)] 49))
        obtain ⟨wo, rfl⟩ : ∃ wo, wo = wr := ⟨wr, rfl⟩
        obtain ⟨ko, rfl⟩ : ∃ ko, ko = gk := ⟨gk, rfl⟩
        generalize hLB : Code.loop _ = LB
        generalize hLC : Code.loop _ = LC
        go_wp2_with fail
        with_reducible refine (HGQ.out _ HB7.out).mono ?_
        clear k0 k1 k2
        generalize wo.alloc (.cells #[.int .i64 ri, .int .i64 (rk : Int), .int .i64 (xl : Int)] 49) = W7 at *
        rintro e v8 ⟨u, rfl, hru, hb8⟩
        have HB8 := hid (HB7.out.trans (hb8.mono HB7.out.size))
        have HB68 := hid (HB67.out.trans (hb8.mono HB67.out.size))
        have HX8 := hid (HX7.out.below hb8 HX7.out.lt)
        have HEB8 := hid (HEB.out.below hb8 HEB.out.lt)
        have HVAL := hid (fun W (hW : Below W7.heap.size W7 W) => ref_Values xn xcl u w4.heap.size W (hru.keep fun p (hp : p.block < w4.heap.size) => hW.cell (p := p) (Nat.lt_of_lt_of_le hp HB7.out.size)) (Nat.le_trans HB7.out.size hW.size) hcl)
        rw [show valuesL xcl = X from HCE.out] at HVAL
        obtain ⟨ua, uc, rfl, -⟩ := hru
        simp only
        generalize xcl.length = un at *
        have hz8 := hb8.size
        have HCB := hid (BoxN.new v8 #[.string xn, .slice ua un uc] 52)
        have HB9 := hid (HB8.out.alloc HB8.out.size (.cells #[.string xn, .slice ua un uc] 52))
        have HB69 := hid (HB68.out.alloc HB68.out.size (.cells #[.string xn, .slice ua un uc] 52))
        have HB79 : Hid (Below W7.heap.size W7 (v8.alloc (.cells #[.string xn, .slice ua un uc] 52))) := hid (hb8.alloc hz8 _)
        have HX9 := hid (HX8.out.alloc (.cells #[.string xn, .slice ua un uc] 52))
        have HEB9 := hid (HEB8.out.alloc (.cells #[.string xn, .slice ua un uc] 52))
        have c0 := HCB.out.cell 0 rfl
        have c1 := HCB.out.cell 1 rfl
        clear hb8
        go_wp2_with fail
        with_reducible refine (HVAL.out _ HB79.out).mono ?_
        clear c0 c1
        generalize v8.alloc (.cells #[.string xn, .slice ua un uc] 52) = W9 at *
        rintro e v10 ⟨xa, xc, rfl, hown10, hb10⟩
        rw [HXL.out] at hown10 ⊢
        have HB10 := hid (HB9.out.trans (hb10.mono HB9.out.size))
        have HB610 := hid (HB69.out.trans (hb10.mono HB69.out.size))
        have HX10 := hid (HX9.out.below hb10 HX9.out.lt)
        have HEB10 := hid (HEB9.out.below hb10 HEB9.out.lt)
        have hxs10 : InS v10 (· < v10.heap.size) (.slice xa xl xc) X := by
          have h := hown10
          rw [← HXL.out] at h ⊢
          exact (inS_of_own h).more fun b hb => (h.lt b hb).2
        have HXS10 := hid hxs10
        clear hown10 hb10 hxs10 HCB HB79 HVAL
        have x0 := HX10.out.cell 0 rfl
        have x1 := HX10.out.cell 1 rfl
        have x2 := HX10.out.cell 2 rfl
        have y0 := HEB10.out.cell 0 rfl
        have y1 := HEB10.out.cell 1 rfl
        have y2 := HEB10.out.cell 2 rfl
        go_wp2_with fail
        with_reducible refine (HPQ.out _ HB10.out).mono ?_
        clear x0 x1 x2 y0 y1 y2
        rintro e v11 ⟨pa, pc, rfl, hown11, hb11⟩
        have HB11 := hid (HB10.out.trans (hb11.mono HB10.out.size))
        have HB611 := hid (HB610.out.trans (hb11.mono HB610.out.size))
        have HX11 := hid (HX10.out.below hb11 HX10.out.lt)
        have HEB11 := hid (HEB10.out.below hb11 HEB10.out.lt)
        have HXS11 := hid ((HXS10.out.keep (w' := v11) fun p hp => hb11.cell (p := p) hp).more (S' := (· < v11.heap.size)) fun b hb => Nat.lt_of_lt_of_le hb hb11.size)
        have HSM := hid (ref_Same _ _ X X v11.heap.size v11 (InS.rds ((inS_of_own hown11).more (S' := (· < v11.heap.size)) fun b hb => (hown11.lt b hb).2) fun b h => h) (by have h := HXS11.out; exact InS.rds h fun b h => h))
        clear hown11 hb11 HXS10
        rw [decide_eq_true (rfl : X = X)] at HSM
        rw [HXL.out] at HSM ⊢
        go_wp2_with fail
        with_reducible refine HSM.out.mono ?_
        rintro e v12 ⟨rfl, k12, rfl⟩
        have HB12 := hid (below_drewN (n := k12) HB11.out)
        have HB612 := hid (below_drewN (n := k12) HB611.out)
        have HX12 := hid (HX11.out.drewN k12)
        have HEB12 := hid (HEB11.out.drewN k12)
        have HXS12 : Hid (InS (v11.drewN k12) (· < v11.heap.size) (.slice xa xl xc) X) := hid (HXS11.out.keep fun _ _ => rfl)
        have hz12 : v11.heap.size = (v11.drewN k12).heap.size := rfl
        rw [hz12] at HXS12
        clear hz12 HSM HB11 HB611 HX11 HEB11 HXS11
        generalize v11.drewN k12 = v12 at *
        have x0 := HX12.out.cell 0 rfl
        have x1 := HX12.out.cell 1 rfl
        have x2 := HX12.out.cell 2 rfl
        have y0 := HEB12.out.cell 0 rfl
        have y1 := HEB12.out.cell 1 rfl
        have y2 := HEB12.out.cell 2 rfl
        have hne : ((xl : Int) != (xl : Int)) = false := by simp
        have hne2 : ((q : Int) != (q : Int)) = false := by simp
        have hS : S + xl ≤ 1000000000 := by omega
        go_wp2_with fail
        with_reducible refine (HCQ.out _ HB12.out).mono ?_
        rintro e v13 ⟨rfl, hb13⟩
        have HB13 := hid (HB12.out.trans (hb13.mono HB12.out.size))
        have HB613 := hid (HB612.out.trans (hb13.mono HB612.out.size))
        have HX13 := hid (HX12.out.below hb13 HX12.out.lt)
        have HEB13 := hid (HEB12.out.below hb13 HEB12.out.lt)
        have HXS13 := hid ((HXS12.out.keep (w' := v13) fun p hp => hb13.cell (p := p) hp).more (S' := (· < v13.heap.size)) fun b hb => Nat.lt_of_lt_of_le hb hb13.size)
        clear x0 x1 x2 y0 y1 y2 hb13 HXS12 HB12 HB612 HX12 HEB12
        have x0 := HX13.out.cell 0 rfl
        have x1 := HX13.out.cell 1 rfl
        have x2 := HX13.out.cell 2 rfl
        have y0 := HEB13.out.cell 0 rfl
        have y1 := HEB13.out.cell 1 rfl
        have y2 := HEB13.out.cell 2 rfl
        have HSQQ := hid (HSZ.out (xl : Int) _ HB13.out)
        have HIN : Hid (q ∈ sizesL (sizeZ (entsOf (cvsL ts))) (xl : Int) (xl : Int)) := hid HSQ.out
        have hszl := sizes_len (sizeZ (entsOf (cvsL ts))) (xl : Int) (xl : Int)
        rw [show (sizeZ (entsOf (cvsL ts))).length = n from by simp [sizeZ, entsOf]; exact HCN.out] at hszl
        generalize sizesL (sizeZ (entsOf (cvsL ts))) (xl : Int) (xl : Int) = Z at *
        go_wp2_with fail
        with_reducible refine HSQQ.out.mono ?_
        rintro e v14 ⟨za, zc, rfl, hzn, hb14⟩
        have HB14 := hid (HB13.out.trans (hb14.mono HB13.out.size))
        have HB614 := hid (HB613.out.trans (hb14.mono HB613.out.size))
        have HX14 := hid (HX13.out.below hb14 HX13.out.lt)
        have HXS14 := hid ((HXS13.out.keep (w' := v14) fun p hp => hb14.cell (p := p) hp).more (S' := (· < v14.heap.size)) fun b hb => Nat.lt_of_lt_of_le hb hb14.size)
        have HZN := hid hzn
        clear x0 x1 x2 y0 y1 y2 hb14 hzn HXS13 HB13 HB613 HX13 HEB13 HSQQ hne hne2
        generalize hzl : Z.length = zl at *
        have HZL := hid hzl
        clear hzl
        go_wp2_with fail
        subst hLB
        go_loopg [13, 98] zl (fun N f i wr => ∃ k : Nat, k + N = zl ∧ i = .int .i64 (k : Int) ∧ f = .bool (inB (Z.take k) q) ∧ v14 = wr)
        case atStart => exact ⟨0, by omega, rfl, by rw [inB_zero], rfl⟩
        case round =>
          obtain ⟨k, hk, rfl, rfl, rfl⟩ := hrel
          by_cases hpk : 0 < gk
          · obtain ⟨pa', pc', epa, -, hpm, hpr⟩ := HZN.out
            rw [HZL.out] at epa hpr
            obtain ⟨rfl, -, rfl⟩ := Value.slice.inj epa
            obtain ⟨b5, o5, rfl, hb5, hpc5⟩ := hpr (by omega)
            have z0 : v14.cell? ⟨b5, o5 + k, none⟩ = some (.int .i64 ((Z.getD k 0 : Nat) : Int)) := by have := hpc5 k (by omega) 0 (by omega); simp only [Nat.mul_one, Nat.add_zero] at this; exact this
            have HNX := hid (inB_succ Z (k := k) (by have := HZL.out; omega) q)
            clear epa hpm hpr hpc5 hb5
            generalize Z.getD k 0 = y at *
            generalize hfk : inB (Z.take k) q = fk at *
            clear hfk
            cases fk
            · by_cases hyq : y = q
              · have HNX2 : Hid (inB (Z.take (k + 1)) q = true) := hid (by rw [HNX.out, decide_eq_true hyq]; rfl)
                have g1 : ((y : Int) == (q : Int)) = true := by simp; omega
                have g2 : (y == q) = true := by simp; omega
                have g3 : decide ((y : Int) = (q : Int)) = true := decide_eq_true (by omega)
                clear hyq
                go_wp2
                go_roundg (gk - 1)
                case rel => exact ⟨k + 1, by omega, by go_num, by rw [HNX2.out], rfl⟩
                case measure => omega
              · have HNX2 : Hid (inB (Z.take (k + 1)) q = false) := hid (by rw [HNX.out, decide_eq_false hyq]; rfl)
                have g1 : ((y : Int) == (q : Int)) = false := by simp; omega
                have g2 : (y == q) = false := by simp; omega
                have g3 : decide ((y : Int) = (q : Int)) = false := decide_eq_false (by omega)
                clear hyq
                go_wp2
                go_roundg (gk - 1)
                case rel => exact ⟨k + 1, by omega, by go_num, by rw [HNX2.out], rfl⟩
                case measure => omega
            · have HNX2 : Hid (inB (Z.take (k + 1)) q = true) := hid (by rw [HNX.out]; rfl)
              go_wp2
              go_roundg (gk - 1)
              case rel => exact ⟨k + 1, by omega, by go_num, by rw [HNX2.out], rfl⟩
              case measure => omega
          · obtain rfl : k = zl := by omega
            have hfull : inB (Z.take k) q = true := by rw [← HZL.out, inB_all]; exact decide_eq_true HIN.out
            rw [hfull]
            go_wp2_with fail
            subst hLC
            clear HIN HZN hfull
            go_loopg [113] xl (fun N i wr => ∃ j : Nat, j + N = xl ∧ i = .int .i64 (j : Int) ∧ Hid (Below w6.heap.size w6 wr ∧ Below v14.heap.size v14 wr))
            case atStart => exact ⟨0, by omega, rfl, hid ⟨HB614.out, Below.refl _ _⟩⟩
            case round =>
              obtain ⟨j, hj, rfl, HBJ⟩ := hrel
              by_cases hpj : 0 < gk
              · obtain ⟨xa', xc', epa, -, hpm, hpr⟩ := HXS14.out
                rw [HXL.out] at epa hpr
                obtain ⟨rfl, -, rfl⟩ := Value.slice.inj epa
                obtain ⟨b5, o5, rfl, hb5, hpc5⟩ := hpr (by omega)
                have hb5' : b5 < v14.heap.size := hb5
                have t0 : wr.cell? ⟨b5, o5 + j, none⟩ = some (.string (X.getD j ⟨#[]⟩)) := (HBJ.out.2.cell (p := ⟨b5, o5 + j, none⟩) hb5').trans (by have := hpc5 j (by omega) 0 (by omega); simp only [Nat.mul_one, Nat.add_zero] at this; exact this)
                have HBX : Hid (Below w4.heap.size w4 wr) := hid (HBW.out.trans (HBJ.out.1.mono (by omega)))
                have HLJ := hid (HLQ.out (X.getD j ⟨#[]⟩) (by simpa using getD_mem (l := X) (i := j) (by have := HXL.out; omega) ⟨#[]⟩) wr HBX.out)
                have hx15 := HX14.out.below HBJ.out.2 HX14.out.lt
                have x0 := hx15.cell 0 rfl
                have x1 := hx15.cell 1 rfl
                have x2 := hx15.cell 2 rfl
                clear epa hpm hpr hpc5 hx15
                generalize X.getD j ⟨#[]⟩ = t at *
                obtain ⟨wi, rfl⟩ : ∃ wi, wi = wr := ⟨wr, rfl⟩
                obtain ⟨ki, rfl⟩ : ∃ ki, ki = gk := ⟨gk, rfl⟩
                generalize hLD : Code.loop _ = LD
                go_wp2_with fail
                with_reducible refine HLJ.out.mono ?_
                rintro e v15 ⟨a15, c15, xs, hqx, rfl, hown15, hxl15, hb15⟩
                have HB15 := hid (HBJ.out.1.trans (hb15.mono HBJ.out.1.size))
                have HB15b := hid (HBJ.out.2.trans (hb15.mono HBJ.out.2.size))
                have HQX := hid hqx
                generalize hxsl : xs.length = m at *
                have HXSL := hid hxsl
                have HOW := hid hown15
                clear x0 x1 x2 t0 hqx hb15 hown15 hxsl
                go_wp2_with fail
                subst hLD
                go_loopg [20, 125] m (fun N f i wr => ∃ k : Nat, k + N = m ∧ i = .int .i64 (k : Int) ∧ f = .bool (inB (xs.take k) q) ∧ v15 = wr)
                case atStart => exact ⟨0, by omega, rfl, by rw [inB_zero], rfl⟩
                case round =>
                  obtain ⟨k, hk, rfl, rfl, rfl⟩ := hrel
                  by_cases hpk : 0 < gk
                  · have z0 : v15.cell? ⟨a15, k, none⟩ = some (.int .i64 ((xs.getD k 0 : Nat) : Int)) := (HOW.out.cellAt k (by omega)).trans (by have := HXSL.out; simp [natsV, List.getD, show k < xs.length by omega])
                    have HNX := hid (inB_succ xs (k := k) (by have := HXSL.out; omega) q)
                    generalize xs.getD k 0 = y at *
                    generalize hfk : inB (xs.take k) q = fk at *
                    clear hfk
                    cases fk
                    · by_cases hyq : y = q
                      · have HNX2 : Hid (inB (xs.take (k + 1)) q = true) := hid (by rw [HNX.out, decide_eq_true hyq]; rfl)
                        have g1 : ((y : Int) == (q : Int)) = true := by simp; omega
                        have g2 : (y == q) = true := by simp; omega
                        have g3 : decide ((y : Int) = (q : Int)) = true := decide_eq_true (by omega)
                        clear hyq
                        go_wp2
                        go_roundg (gk - 1)
                        case rel => exact ⟨k + 1, by omega, by go_num, by rw [HNX2.out], rfl⟩
                        case measure => omega
                      · have HNX2 : Hid (inB (xs.take (k + 1)) q = false) := hid (by rw [HNX.out, decide_eq_false hyq]; rfl)
                        have g1 : ((y : Int) == (q : Int)) = false := by simp; omega
                        have g2 : (y == q) = false := by simp; omega
                        have g3 : decide ((y : Int) = (q : Int)) = false := decide_eq_false (by omega)
                        clear hyq
                        go_wp2
                        go_roundg (gk - 1)
                        case rel => exact ⟨k + 1, by omega, by go_num, by rw [HNX2.out], rfl⟩
                        case measure => omega
                    · have HNX2 : Hid (inB (xs.take (k + 1)) q = true) := hid (by rw [HNX.out]; rfl)
                      go_wp2
                      go_roundg (gk - 1)
                      case rel => exact ⟨k + 1, by omega, by go_num, by rw [HNX2.out], rfl⟩
                      case measure => omega
                  · obtain rfl : k = m := by omega
                    have hfull : inB (xs.take k) q = true := by rw [← HXSL.out, inB_all]; exact decide_eq_true HQX.out
                    rw [hfull]
                    go_wp2_with fail
                    go_roundg (ki - 1)
                    case rel => exact ⟨j + 1, by omega, by go_num, hid ⟨HB15.out, HB15b.out⟩⟩
                    case measure => omega
              · obtain rfl : j = xl := by omega
                go_wp2_with fail
                go_roundg (ko - 1)
                case rel => exact ⟨q + 1, by omega, by go_num, by rw [HSE.out]; go_num, hid HBJ.out.1⟩
                case measure => omega
      · obtain rfl : q = n := by omega
        have HBR := hid (HBW.out.trans (HB.out.mono (by omega)))
        have hx7 := HX6.out.below HB.out hx6l
        have x0 := hx7.cell 0 rfl
        have x1 := hx7.cell 1 rfl
        have x2 := hx7.cell 2 rfl
        have HENN := hid (HEN.out wr HBR.out)
        clear hx7
        generalize sizesSum (cvsL ts) q = S at *
        go_wp2_with fail
        with_reducible refine HENN.out.mono ?_
        rintro e v8 ⟨rfl, hb8⟩
        have HB8 := hid (HB4.out.trans ((HBR.out.trans (hb8.mono HBR.out.size)).mono HB4.out.size))
        clear hb8 x0 x1 x2
        go_wp2
        go_ret
        exact ⟨ret_bool (by simp), HB8.out⟩

end Go.Proofs.YtabemneoobbnaaaGreatDoor
