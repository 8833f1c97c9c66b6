/- The walk of ContainmentFirst. Go's own tables where the call begins; how a list of texts is opened. -/
import Derived.Deep.RegionHeld3
import Derived.Deep.Cut
import Derived.Deep.CutRange
import Derived.Test.YtikiimlmoalbcaaGreatDoorCoFbm
import Derived.Test.YtikiimlmoalbcaaGreatDoorCoFbn
import Derived.Test.YtikiimlmoalbcaaGreatDoorTie
import Derived.Test.YtikiimlmoalbcaaGreatDoorCards
import Derived.Carry
import Derived.SizedLaws
import Derived.ProofKit
import Derived.OpenShut
import Derived.ChangeSlices
import Derived.SliceStrings
import Derived.LaidLaws
import Derived.LaidMore
import Derived.Lib.LaidU8T
import Derived.PinnedBridge
import Derived.SevenTiedAt
import Derived.Test.YtikiimlmoalbcaaGreatDoorCoFal
import Derived.Test.YtikiimlmoalbcaaGreatDoorCoFai
import Derived.Test.YtikiimlmoalbcaaGreatDoorCoFah
set_option linter.unusedVariables false
set_option linter.unusedSimpArgs false
namespace Go.Proofs.YtikiimlmoalbcaaGreatDoor
open Go.RowKit
theorem rdU_laterB {w w1 : World} {sa : Option Addr} {sn sc : Nat} (h : RdU w w.heap.size sa sn sc) (hb1 : Below w.heap.size w w1) : RdU w1 w1.heap.size sa sn sc := by
  obtain ⟨h1, h2, h3⟩ := h
  refine ⟨h1, h2, fun hp => ?_⟩
  obtain ⟨b, o, e, hlt, hc⟩ := h3 hp
  exact ⟨b, o, e, by have := hb1.size; omega, fun i hi => by
    obtain ⟨x, hx, hcx⟩ := hc i hi
    exact ⟨x, hx, (hb1.cell (p := ⟨b, o + i, none⟩) hlt).trans hcx⟩⟩
theorem geU_red {den : Nat → Nat → Nat} {cs : List Cv} {q : List ByteArray} {i d : Nat} (hd : 0 < d) (c : Nat) : geU den cs q (i / Nat.gcd i d) (d / Nat.gcd i d) c = geU den cs q i d c := by
  have g0 : 0 < Nat.gcd i d := Nat.gcd_pos_of_pos_right _ hd
  have e1 : i = Nat.gcd i d * (i / Nat.gcd i d) := (Nat.mul_div_cancel' (Nat.gcd_dvd_left _ _)).symm
  have e2 : d = Nat.gcd i d * (d / Nat.gcd i d) := (Nat.mul_div_cancel' (Nat.gcd_dvd_right _ _)).symm
  unfold geU
  rw [decide_eq_decide]
  generalize i / Nat.gcd i d = p at *
  generalize d / Nat.gcd i d = r at *
  generalize Nat.gcd i d = g at *
  rw [e1, e2]
  have a1 : g * p * den (comC cs q c) (sizeC cs c) = g * (p * den (comC cs q c) (sizeC cs c)) := Nat.mul_assoc _ _ _
  have a2 : comC cs q c * (g * r) = g * (comC cs q c * r) := Nat.mul_left_comm _ _ _
  rw [a1, a2]
  exact (Nat.mul_le_mul_left_iff g0).symm
set_option maxRecDepth 100000 in
set_option maxHeartbeats 8000000 in
theorem law20_first (sa : Option Addr) (sn sc N1 N2 : Nat) (h1 : N1 < 256) (h2 : N2 < 256) (w : World) (hs : RdU w w.heap.size sa sn sc) (hT : Tabs w) (ho : Fr.OneAt w) :
  Calls Tryz.prog 3 #[.slice sa sn sc, .int .u8 (N1 : Int), .int .u8 (N2 : Int)] w (Ret w (.bool true)) := by
 have HS := hid hs
 have HT := hid hT
 have HO := hid ho
 clear hs hT ho
 obtain ⟨kind, hkd⟩ : ∃ k, k = 1 + N1 % 3 := ⟨_, rfl⟩
 obtain ⟨n, hnd⟩ : ∃ k, k = N2 % 6 := ⟨_, rfl⟩
 have hk1 : 1 ≤ kind := by omega
 have hk3 : kind ≤ 3 := by omega
 have hn6 : n ≤ 5 := by omega
 have HK := hid hkd
 have HN := hid hnd
 clear hkd hnd
 go_enter Tryz.func3, Tryz.ntmps3
 generalize hLA : Code.loop _ = LA
 go_wp2_with fail
 with_reducible refine (Fr.sane20 _).mono ?_
 rintro e w1 ⟨rfl, hb1⟩
 have HB1 := hid hb1
 have HU1 := hid (rdU_laterB HS.out hb1)
 have hz1 := hb1.size
 clear hb1
 go_wp2_with fail
 with_reducible refine (mill_New sa sn sc _ HU1.out).mono ?_
 rintro e w2 ⟨rfl, hd2, hb2⟩
 have HD2 := hid hd2
 have HB2 := hid (HB1.out.trans (hb2.mono HB1.out.size))
 have hz2 : w1.heap.size < w2.heap.size := hd2.lt
 clear hd2 hb2 HU1
 obtain ⟨g, hg⟩ : ∃ g, g = w1.heap.size := ⟨_, rfl⟩
 rw [← hg] at HD2 hz1 hz2 ⊢
 clear hg
 have HIX := hid (dice_Index g w w2 HD2.out HT.out HB2.out hz1)
 go_wp2_with fail
 with_reducible refine HIX.out.mono ?_
 clear HIX
 rintro e w3 ⟨ts, ev, vv, lv, rfl, hok, hrx, hd3, hr3⟩
 have hB3 := HB2.out.trans (hr3.below (B' := w.heap.size) hz1 HB2.out.size)
 have HROK := hid (rolled_ok hok)
 have HRX := hid hrx
 have hz3 := hr3.size
 have HD3 := hid hd3
 have HB3 := hid hB3
 obtain ⟨ea, ec, rfl, -⟩ := id hrx.ents
 obtain ⟨va, vc, rfl, -⟩ := id hrx.vals
 obtain ⟨lf, ⟨la, lc, rfl, -⟩, -⟩ := id hrx.lists
 generalize cvsL ts = cs at *
 clear hok hrx hd3 hr3 hB3
 have HX4 := hid (BoxN.new w3 #[.slice ea (indexOf cs).ents.length ec, .slice va (indexOf cs).vals.length vc, .slice la (indexOf cs).lists.length lc] 30)
 have HB4 := hid (HB3.out.alloc HB3.out.size (.cells #[.slice ea (indexOf cs).ents.length ec, .slice va (indexOf cs).vals.length vc, .slice la (indexOf cs).lists.length lc] 30))
 have HD4 := hid (HD3.out.alloc (.cells #[.slice ea (indexOf cs).ents.length ec, .slice va (indexOf cs).vals.length vc, .slice la (indexOf cs).lists.length lc] 30))
 have HRX4 := hid (HRX.out.keep (w' := w3.alloc (.cells #[.slice ea (indexOf cs).ents.length ec, .slice va (indexOf cs).vals.length vc, .slice la (indexOf cs).lists.length lc] 30)) fun p hp => World.cell?_alloc_lt _ _ _ hp.2)
 have x0 := HX4.out.cell 0 rfl
 have x1 := HX4.out.cell 1 rfl
 have x2 := HX4.out.cell 2 rfl
 have hsz4 : w3.heap.size < (w3.alloc (.cells #[.slice ea (indexOf cs).ents.length ec, .slice va (indexOf cs).vals.length vc, .slice la (indexOf cs).lists.length lc] 30)).heap.size := HX4.out.lt
 have HQ := hid (law20_query g _ _ _ (indexOf cs) _ (w3.alloc (.cells #[.slice ea (indexOf cs).ents.length ec, .slice va (indexOf cs).vals.length vc, .slice la (indexOf cs).lists.length lc] 30)) HD4.out HRX4.out (fun k hk => ⟨Nat.lt_trans hk.2 hsz4, by have h5 := hk.1; omega⟩) HROK.out.2.1)
 go_wp2_with fail
 with_reducible refine HQ.out.mono ?_
 clear HQ x0 x1 x2
 obtain ⟨w4, hw4⟩ : ∃ V, V = w3.alloc (.cells #[.slice ea (indexOf cs).ents.length ec, .slice va (indexOf cs).vals.length vc, .slice la (indexOf cs).lists.length lc] 30) := ⟨_, rfl⟩
 rw [← hw4] at HX4 HB4 HRX4 hsz4 ⊢
 clear hw4 HD4
 rintro e w5 ⟨qa, qc, q, rfl, hown, hasc, hql, hd5, hr5⟩
 have HB5 := hid (HB4.out.trans (hr5.below (B' := w.heap.size) hz1 HB4.out.size))
 have HX5 := hid (show BoxN w5 w3.heap.size 30 #[.slice ea (indexOf cs).ents.length ec, .slice va (indexOf cs).vals.length vc, .slice la (indexOf cs).lists.length lc] from (hr5.block _ HX4.out.lt (by omega)).trans HX4.out)
 have HIN := hid (show SrcIn w5 cs q (.slice ea (indexOf cs).ents.length ec) (.slice va (indexOf cs).vals.length vc) (.slice la (indexOf cs).lists.length lc) (.slice qa q.length qc) from
  ⟨HROK.out.1, (HRX4.out.keep fun p hp => hr5.cell (p := p) (Nat.lt_trans hp.2 hsz4) (by have h5 := hp.1; omega)).more fun k hk => Nat.lt_of_lt_of_le (Nat.lt_trans hk.2 hsz4) hr5.size, rdS_of_own hown, hasc, hql⟩)
 have HONE := hid (fun W (hW : Below w5.heap.size w5 W) => HO.out.below (HB5.out.trans (hW.mono HB5.out.size)))
 have HTOP := hid (fun W k (hW : Below w5.heap.size w5 W) (hk : k ≤ 1024) => cont_Top (HIN.out.later hW) kind hk1 hk3 k hk (HONE.out W hW))
 obtain ⟨S, hS⟩ := hits_exist (denK_sco hk1 hk3 q.length) (asc_nodupB hasc) (cs := cs)
 have HSS := hid hS
 clear hown hasc hd5 hr5 HX4 HB4 HRX4 hS
 have x0 := HX5.out.cell 0 rfl
 have x1 := HX5.out.cell 1 rfl
 have x2 := HX5.out.cell 2 rfl
 have e1 : (1 : Int) + (N1 : Int) % 3 = (kind : Int) := by have := HK.out; omega
 have e2 : (N2 : Int) % 6 = (n : Int) := by have := HN.out; omega
 have HT1 := hid (HTOP.out w5 1024 (Below.refl _ _) (by omega))
 rw [show ((1024 : Nat) : Int) = 1024 from rfl] at HT1
 go_wp2_with fail
 rw [e2]
 clear e1 e2
 with_reducible refine HT1.out.mono ?_
 rintro e w6 ⟨v1, c1, H1, ds1, l1, k1, ln1, lc1, cn1, cc1, rfl, hrd1, hall1, -, hb6⟩
 have hH1 := hall1 S HSS.out
 have hSl : S.length ≤ 1024 := by
  have h5 := nodup_leB (m := List.range cs.length) (befH_nodup HSS.out.1) (fun c hc => List.mem_range.2 ((HSS.out.2 c).1 hc).1)
  rw [List.length_range] at h5
  have h6 := HROK.out.2.2
  omega
 rw [List.take_of_length_le hSl] at hH1
 subst hH1
 have HR1 := hid (hrd1.later ((Below.refl w6.heap.size w6).alloc (Nat.le_refl _) (.cells #[.slice l1 ln1 lc1, .slice k1 cn1 cc1] 36)))
 obtain ⟨L1, hL1⟩ : ∃ L, L = H1.length := ⟨_, rfl⟩
 have HL1 := hid hL1
 have hl1 : ds1.length = L1 := by rw [hL1]; exact hrd1.len
 rw [hl1] at HR1 ⊢
 have HDL1 := hid hl1
 have hL1b : L1 ≤ 1024 := by rw [hL1]; exact hSl
 clear hL1 hl1 hSl
 have HB7 := hid (hb6.alloc hb6.size (.cells #[.slice l1 ln1 lc1, .slice k1 cn1 cc1] 36))
 have hX7 := HX5.out.below HB7.out HX5.out.lt
 clear x0 x1 x2 hrd1 hall1 hb6
 have x0 := hX7.cell 0 rfl
 have x1 := hX7.cell 1 rfl
 have x2 := hX7.cell 2 rfl
 have HT2 := hid (HTOP.out _ n HB7.out (by omega))
 go_wp2_with fail
 with_reducible refine HT2.out.mono ?_
 rintro e w8 ⟨v2, c2, H2, ds2, l2, k2, ln2, lc2, cn2, cc2, rfl, hrd2, hall2, -, hb8⟩
 have hH2 := hall2 H1 HSS.out
 have hl2 : ds2.length = min n L1 := by rw [hrd2.len, hH2, List.length_take, HL1.out]
 obtain ⟨M, hM⟩ : ∃ M, M = ds2.length := ⟨_, rfl⟩
 have hMn : M ≤ L1 := by omega
 have hMm : min (n : Int) (L1 : Int) = (M : Int) := by omega
 have HH2 : Hid (H2 = H1.take M) := hid (by rw [hH2, hM, hl2, HL1.out, ← List.take_take, List.take_length])
 have HR2 := hid (hrd2.later ((Below.refl w8.heap.size w8).alloc (Nat.le_refl _) (.cells #[.slice l2 ln2 lc2, .slice k2 cn2 cc2] 36)))
 have HDM := hid hM.symm
 rw [← hM] at HR2 ⊢
 rw [HH2.out] at HR2
 have HB9 := hid (HB7.out.trans (hb8.mono HB7.out.size) |>.alloc (HB7.out.trans (hb8.mono HB7.out.size)).size (.cells #[.slice l2 ln2 lc2, .slice k2 cn2 cc2] 36))
 have HR1 := hid ((HR1.out.later hb8).later ((Below.refl w8.heap.size w8).alloc (Nat.le_refl _) (.cells #[.slice l2 ln2 lc2, .slice k2 cn2 cc2] 36)))
 have hc1 : L1 ≤ c1 := by
  obtain ⟨a, c, e, h5, -⟩ := HR1.out.mem
  obtain ⟨-, -, rfl⟩ := Value.slice.inj e
  rw [HDL1.out] at h5
  exact h5
 have hMc : (M : Int) ≤ (c1 : Int) := by omega
 have hM0 : (0 : Int) ≤ (M : Int) := by omega
 have HSH := hid (ref_SameHits HR2.out (HR1.out.take (n := M) (by rw [HDL1.out]) (by rw [HDL1.out]; exact hMn)) (by rw [List.length_take]; omega))
 clear hH2 hl2 hM hrd2 hall2 hb8 x0 x1 x2 hX7 HT2 HT1
 go_wp2_with fail
 with_reducible refine HSH.out.mono ?_
 rintro e w10 ⟨rfl, hb10⟩
 have HB10 := hid (HB9.out.trans (hb10.mono HB9.out.size))
 have HR10 := hid (HR1.out.later hb10)
 clear hb10 hMm
 subst hLA
 go_wp2_with fail
 have HRDL := hid (fun j c => geU_less (den := denK kind q.length) (cs := cs) (qs := q) (p := j) (p' := j + 1) (q := 4) (c := c) (by omega))
 have HSCO := hid (denK_sco hk1 hk3 q.length)
 have HQN := hid (asc_nodupB HIN.out.asc)
 obtain ⟨LL, hLL⟩ : ∃ LL : Nat → Nat, ∀ j, LL j = (H1.filter (geU (denK kind q.length) cs q j 4)).length := ⟨_, fun _ => rfl⟩
 have HLL := hid hLL
 have HL0 : Hid (LL 0 = L1) := hid (by
  rw [hLL, HL1.out, List.filter_eq_self.2 fun c _ => by unfold geU; rw [Nat.zero_mul]; exact decide_eq_true (Nat.zero_le _)])
 have HLD : Hid (∀ j, LL (j + 1) ≤ LL j) := hid (fun j => by
  rw [hLL, hLL]
  exact filter_less fun c hc => HRDL.out j c hc)
 clear hLL
 go_loopg [19, 18, 20, 21, 22, 23, 24] 4 (fun K i last u20 u21 u22 u23 u24 wr => ∃ ii : Nat, i = .int .i64 (ii : Int) ∧ 1 ≤ ii ∧ ii + K = 5 ∧ last = .int .i64 ((LL (ii - 1) : Nat) : Int) ∧ Hid (Below w10.heap.size w10 wr))
 case atStart => exact ⟨1, rfl, by omega, by omega, by rw [HL0.out], hid (Below.refl _ _)⟩
 case round =>
  obtain ⟨ii, rfl, hi1, hi4, rfl, HBR⟩ := hrel
  have HBW := hid (HB10.out.trans (HBR.out.mono HB10.out.size))
  by_cases hp : 0 < gk
  ·have hii : (ii : Int) ≤ 4 := by omega
   have HOF := hid (Fr.ref_Of ii 4 wr (by omega) (by omega) (by omega))
   rw [show ((4 : Nat) : Int) = 4 from rfl] at HOF
   have hgp : 0 < Nat.gcd ii 4 := Nat.gcd_pos_of_pos_right _ (by omega)
   have hP0 : 0 < ii / Nat.gcd ii 4 := Nat.div_pos (Nat.gcd_le_left _ (by omega)) hgp
   have hPQ : ii / Nat.gcd ii 4 ≤ 4 / Nat.gcd ii 4 := Nat.div_le_div_right (by omega)
   have hsmP := sml_ofB (c := ii) (d := 4) (by omega) (by omega) (by omega)
   have HGR := hid (fun c => geU_red (den := denK kind q.length) (cs := cs) (q := q) (i := ii) (d := 4) (by omega) c)
   have HCS := hid (fun u v c d W (hW : Below wr.heap.size wr W) hu hv hd hc hd2 => Fr.cmp_scores u v c d ii 4 W hu hv hd hc hd2 (by omega) (by omega) (by omega))
   have HLI : Hid (LL ii ≤ LL (ii - 1)) := hid (by
    have h5 := HLD.out (ii - 1)
    rwa [show ii - 1 + 1 = ii by omega] at h5)
   have hLIi : (LL ii : Int) ≤ (LL (ii - 1) : Int) := by have := HLI.out; omega
   generalize LL (ii - 1) = lst at *
   clear hgp
   obtain ⟨P, hPE⟩ : ∃ P, P = ii / Nat.gcd ii 4 := ⟨_, rfl⟩
   obtain ⟨Q, hQE⟩ : ∃ Q, Q = 4 / Nat.gcd ii 4 := ⟨_, rfl⟩
   rw [← hPE] at hP0 hPQ hsmP HGR HOF HCS
   rw [← hQE] at hPQ hsmP HGR HOF HCS
   have HPE := hid hPE
   have HQE := hid hQE
   clear hPE hQE
   go_wp2_with fail
   with_reducible refine HOF.out.mono ?_
   rintro e w11 ⟨fa, fc, ga, gc, rfl, hN, hb11⟩
   have HX12 := hid (BoxN.new w11 #[.bool false, .slice fa (Fr.dig P).length fc, .bool false, .slice ga (Fr.dig Q).length gc] 45)
   have HBB := hid (hb11.alloc hb11.size (.cells #[.bool false, .slice fa (Fr.dig P).length fc, .bool false, .slice ga (Fr.dig Q).length gc] 45))
   have HB12 := hid (HBW.out.trans (HBB.out.mono HBW.out.size))
   have HRF := hid ((hN.rd false).kept ((Below.refl w11.heap.size w11).alloc (Nat.le_refl _) (.cells #[.bool false, .slice fa (Fr.dig P).length fc, .bool false, .slice ga (Fr.dig Q).length gc] 45)))
   have hX5 := HX5.out.below HB12.out HX5.out.lt
   have x0 := hX5.cell 0 rfl
   have x1 := hX5.cell 1 rfl
   have x2 := hX5.cell 2 rfl
   have y0 := HX12.out.cell 0 rfl
   have y1 := HX12.out.cell 1 rfl
   have y2 := HX12.out.cell 2 rfl
   have y3 := HX12.out.cell 3 rfl
   have HLE := hid (cont_Least (HIN.out.later HB12.out) kind hk1 hk3 HRF.out hsmP hP0 hPQ (HONE.out _ HB12.out))
   clear hN hb11 hX5 HOF
   go_wp2_with fail
   with_reducible refine HLE.out.mono ?_
   rintro e w13 ⟨v3, c3, H3, ds3, l3, k3, ln3, lc3, cn3, cc3, rfl, hrd3, hall3, -, hb13⟩
   have hH3 := hall3 H1 HSS.out
   have hpre := filter_prefix (geU_up HSCO.out HQN.out HSS.out ii 4)
   have hH3b : H3 = H1.filter (geU (denK kind q.length) cs q ii 4) := by
    rw [hH3]
    exact List.filter_congr fun c _ => HGR.out c
   rw [← HLL.out ii, ← hH3b] at hpre
   obtain ⟨hp1, hp2⟩ := hpre
   obtain ⟨M3, hM3⟩ : ∃ M, M = LL ii := ⟨_, rfl⟩
   rw [← hM3] at hp1 hp2 HLI hLIi
   have hl3 : ds3.length = M3 := by rw [hrd3.len, hM3, HLL.out ii, ← hH3b]
   have hM3L : M3 ≤ L1 := by
    have h5 := HLL.out ii
    rw [hM3, h5, HL1.out]
    exact List.length_filter_le _ _
   rw [hp1] at hrd3
   rw [hl3] at hrd3 ⊢
   have HW14 := hid (hb13.alloc hb13.size (.cells #[.slice l3 ln3 lc3, .slice k3 cn3 cc3] 36))
   have HBR14 := hid (HBR.out.trans ((HBB.out.trans (HW14.out.mono HBB.out.size)).mono HBR.out.size))
   have HR3 := hid (hrd3.later ((Below.refl w13.heap.size w13).alloc (Nat.le_refl _) (.cells #[.slice l3 ln3 lc3, .slice k3 cn3 cc3] 36)))
   have HR14 := hid (HR10.out.later HBR14.out)
   have hX14 := HX12.out.below HW14.out HX12.out.lt
   have HX14 := hid hX14
   have HRF14 := hid (HRF.out.kept HW14.out)
   have HBR17 := hid (HBR14.out)
   have HLAST := hid (show LL (ii + 1 - 1) = M3 by rw [Nat.add_sub_cancel, hM3])
   have hM3i : decide (lst < M3) = false := decide_eq_false (by omega)
   have hM3c : (M3 : Int) ≤ (c1 : Int) := by omega
   have hM30 : (0 : Int) ≤ (M3 : Int) := by omega
   have hcs : ∀ c ∈ H1, c < cs.length ∧ 0 < comC cs q c := fun c hc => (HSS.out.2 c).1 hc
   clear hM3 hl3 hrd3 hall3 hb13 hH3 hH3b x0 x1 x2 y0 y1 y2 y3 hX14 HLE
   go_upto_region 17 with fail
   obtain ⟨w14, hw14⟩ : ∃ V, V = w13.alloc (.cells #[.slice l3 ln3 lc3, .slice k3 cn3 cc3] 36) := ⟨_, rfl⟩
   rw [← hw14] at HW14 HBR14 HR3 HR14 HX14 HRF14 HBR17 ⊢
   clear hw14
   have HSH3 := hid (fun W (hW : Below w14.heap.size w14 W) => ref_SameHits (HR3.out.later hW) ((HR14.out.later hW).take (n := M3) (by rw [HDL1.out]) (by rw [HDL1.out]; exact hM3L)) (by rw [List.length_take]; omega))
   have HD := hid ((Below.refl w14.heap.size w14).drew)
   go_cut [136] from 84 to 138 (fun s136 wx => s136 = .bool false ∧ Hid (Below w14.heap.size w14 wx))
   case first =>
    by_cases hlt : M3 < L1
    ·have hlti : (M3 : Int) < (L1 : Int) := by omega
     have hltb : decide (M3 < L1) = true := decide_eq_true hlt
     have hge := hp2 M3 (Nat.le_refl _) (by rw [← HL1.out]; exact hlt)
     obtain ⟨b1, o1, cc1, e1, -, hcell⟩ := hit_at HR14.out.mem (p := M3) (by rw [HDL1.out]; exact hlt)
     obtain ⟨rfl, -, rfl⟩ := Value.slice.inj e1
     have hm1 : ds1.getD M3 default ∈ ds1 := by rw [← List.getElem_eq_getD (h := by rw [HDL1.out]; exact hlt)]; exact List.getElem_mem _
     have hi1 := HR14.out.of _ hm1
     have hrd := HR14.out.rd _ hm1
     have hcol : colQ cs (ds1.getD M3 default) = H1.getD M3 0 := by
      conv => rhs; rw [← HR14.out.cols]
      simp [List.getD, show M3 < ds1.length by rw [HDL1.out]; exact hlt]
     rw [hcol] at hi1
     generalize H1.getD M3 0 = c at *
     generalize (ds1.getD M3 default).1 = y at *
     obtain ⟨ta, ca, ⟨na1, nc1⟩, ⟨da1, dc1⟩, P1, Q1⟩ := y
     have hyp : P1 = comC cs q c / Nat.gcd (comC cs q c) (denK kind q.length (comC cs q c) (sizeC cs c)) := hi1.p
     have hyq : Q1 = denK kind q.length (comC cs q c) (sizeC cs c) / Nat.gcd (comC cs q c) (denK kind q.length (comC cs q c) (sizeC cs c)) := hi1.q
     have hrd1 : Fr.RdF w14 (.agg #[.bool false, .slice na1 (Fr.dig P1).length nc1, .bool false, .slice da1 (Fr.dig Q1).length dc1]) false P1 Q1 := hrd
     have hcq : comC cs q c ≤ 1048576 := Nat.le_trans (com_le_q c) HIN.out.ql
     have hdp : 0 < denK kind q.length (comC cs q c) (sizeC cs c) := HSCO.out.pos _ _ hi1.pos (com_le_q c) (com_le_size HQN.out c)
     have hds : denK kind q.length (comC cs q c) (sizeC cs c) < 4294967296 := denK_small HIN.out.ql (size_le HROK.out.1 c)
     have HCMP := hid (fun W (hW : Below w14.heap.size w14 W) => HCS.out (.agg #[.bool false, .slice na1 (Fr.dig P1).length nc1, .bool false, .slice da1 (Fr.dig Q1).length dc1]) (.agg #[.bool false, .slice fa (Fr.dig P).length fc, .bool false, .slice ga (Fr.dig Q).length gc]) (comC cs q c) (denK kind q.length (comC cs q c) (sizeC cs c)) W ((HBB.out.trans (HW14.out.mono HBB.out.size)).trans (hW.mono (HBB.out.trans (HW14.out.mono HBB.out.size)).size)) (by rw [← hyp, ← hyq]; exact hrd1.kept hW) (HRF14.out.kept hW) hdp (by omega) hds)
     have hzn : ¬ (0 : Int) ≤ Fr.sgn (comC cs q c * 4) (ii * denK kind q.length (comC cs q c) (sizeC cs c)) := by
      rw [Fr.sgn_nonneg]
      unfold geU at hge
      exact of_decide_eq_false hge
     generalize Fr.sgn (comC cs q c * 4) (ii * denK kind q.length (comC cs q c) (sizeC cs c)) = z at *
     have hzb : decide (0 ≤ z) = false := decide_eq_false hzn
     clear hzn
     have HG := hid (fun W (hW : Below w14.heap.size w14 W) => (by
      have k := fun j (hj : j < 6) => (hW.cell (p := ⟨b1, o1 + M3 * 6 + j, none⟩) (World.block_lt_of_cell? _ _ (hcell j hj))).trans (hcell j hj)
      have h5 := HX14.out.below hW HX14.out.lt
      exact ⟨k 2 (by omega), k 3 (by omega), k 4 (by omega), k 5 (by omega), h5.cell 0 rfl, h5.cell 1 rfl, h5.cell 2 rfl, h5.cell 3 rfl⟩ : W.cell? ⟨b1, o1 + M3 * 6 + 2, none⟩ = some (.bool false) ∧ W.cell? ⟨b1, o1 + M3 * 6 + 3, none⟩ = some (.slice na1 (Fr.dig P1).length nc1) ∧ W.cell? ⟨b1, o1 + M3 * 6 + 4, none⟩ = some (.bool false) ∧ W.cell? ⟨b1, o1 + M3 * 6 + 5, none⟩ = some (.slice da1 (Fr.dig Q1).length dc1) ∧ W.cell? ⟨w11.heap.size, 0, none⟩ = some (.bool false) ∧ W.cell? ⟨w11.heap.size, 1, none⟩ = some (.slice fa (Fr.dig P).length fc) ∧ W.cell? ⟨w11.heap.size, 2, none⟩ = some (.bool false) ∧ W.cell? ⟨w11.heap.size, 3, none⟩ = some (.slice ga (Fr.dig Q).length gc)))
     clear hcell hi1 hrd hyp hyq hrd1 hge e1 hm1 hcol
     go_region_held3 (fun W => W.cell? ⟨b1, o1 + M3 * 6 + 2, none⟩ = some (.bool false) ∧ W.cell? ⟨b1, o1 + M3 * 6 + 3, none⟩ = some (.slice na1 (Fr.dig P1).length nc1) ∧ W.cell? ⟨b1, o1 + M3 * 6 + 4, none⟩ = some (.bool false) ∧ W.cell? ⟨b1, o1 + M3 * 6 + 5, none⟩ = some (.slice da1 (Fr.dig Q1).length dc1) ∧ W.cell? ⟨w11.heap.size, 0, none⟩ = some (.bool false) ∧ W.cell? ⟨w11.heap.size, 1, none⟩ = some (.slice fa (Fr.dig P).length fc) ∧ W.cell? ⟨w11.heap.size, 2, none⟩ = some (.bool false) ∧ W.cell? ⟨w11.heap.size, 3, none⟩ = some (.slice ga (Fr.dig Q).length gc))
      (first | exact HG.out _ HD.out | exact HG.out _ HC.out | go_keep)
      (first
       | (go_at_call 14; go_must ((with_reducible refine (HSH3.out _ HD.out).mono ?_); rintro e w15 ⟨rfl, hb15⟩; have HD := hid (HD.out.trans (hb15.mono HD.out.size)); clear hb15))
       | (go_at_call 17; go_must ((with_reducible refine (HCMP.out _ HD.out).mono ?_); rintro e w16 ⟨rfl, hb16⟩; have HD := hid (HD.out.trans (hb16.mono HD.out.size)); clear hb16)))
     all_goals
      go_wp2_with fail
      go_meet
      exact ⟨rfl, HD⟩
    ·have hltb : decide (M3 < L1) = false := decide_eq_false hlt
     have HG := hid (fun W (hW : Below w14.heap.size w14 W) => (HX14.out.below hW HX14.out.lt).cell 0 rfl)
     refine wp_region_held_drew (S := fun W => W.cell? ⟨w11.heap.size, 0, none⟩ = some (.bool false)) (by kernel_rfl) (HG.out _ HD.out) (fun hHeld => ?_)
     refine wpAnyH_take (i := 0) (v := ?_) (by simp only [List.getElem?_toArray, List.getElem?_cons_zero, List.getElem?_cons_succ]; rfl) (by kernel_rfl) (by kernel_rfl) (by kernel_rfl) (by intro _ _ _ h; exact h) (Or.inl ⟨by rfl, ?_⟩) (by assumption) ?_
     rotate_left
     ·(intro w' hSw; (try dsimp only at hSw); go_simp) <;> with_reducible rfl
     try simp only [Act.put, List.setIfInBounds_toArray, List.set_cons_zero, List.set_cons_succ]
     refine wpAnyH_take (i := 1) (v := ?_) (by simp only [List.getElem?_toArray, List.getElem?_cons_zero, List.getElem?_cons_succ]; rfl) (by kernel_rfl) (by kernel_rfl) (by kernel_rfl) (by intro _ _ _ h; exact h) (Or.inl ⟨by rfl, ?_⟩) (by assumption) ?_
     rotate_left
     ·(intro w' hSw; (try dsimp only at hSw); go_simp) <;> with_reducible rfl
     try simp only [Act.put, List.setIfInBounds_toArray, List.set_cons_zero, List.set_cons_succ]
     refine wpAnyH_take (i := 2) (v := ?_) (by simp only [List.getElem?_toArray, List.getElem?_cons_zero, List.getElem?_cons_succ]; rfl) (by kernel_rfl) (by kernel_rfl) (by kernel_rfl) (by intro _ _ _ h; exact h) (Or.inl ⟨by rfl, ?_⟩) (by assumption) ?_
     rotate_left
     ·(intro w' hSw; (try dsimp only at hSw); go_simp) <;> with_reducible rfl
     try simp only [Act.put, List.setIfInBounds_toArray, List.set_cons_zero, List.set_cons_succ]
     refine wpAnyH_take (i := 3) (v := ?_) (by simp only [List.getElem?_toArray, List.getElem?_cons_zero, List.getElem?_cons_succ]; rfl) (by kernel_rfl) (by kernel_rfl) (by kernel_rfl) (by intro _ _ _ h; exact h) (Or.inl ⟨by rfl, ?_⟩) (by assumption) ?_
     rotate_left
     ·(intro w' hSw; (try dsimp only at hSw); go_simp) <;> with_reducible rfl
     try simp only [Act.put, List.setIfInBounds_toArray, List.set_cons_zero, List.set_cons_succ]
     refine wpAnyH_take (i := 4) (v := ?_) (by simp only [List.getElem?_toArray, List.getElem?_cons_zero, List.getElem?_cons_succ]; rfl) (by kernel_rfl) (by kernel_rfl) (by kernel_rfl) (by intro _ _ _ h; exact h) (Or.inl ⟨by rfl, ?_⟩) (by assumption) ?_
     rotate_left
     ·(intro w' hSw; (try dsimp only at hSw); go_simp) <;> with_reducible rfl
     try simp only [Act.put, List.setIfInBounds_toArray, List.set_cons_zero, List.set_cons_succ]
     refine wpAnyH_take (i := 5) (v := ?_) (by simp only [List.getElem?_toArray, List.getElem?_cons_zero, List.getElem?_cons_succ]; rfl) (by kernel_rfl) (by kernel_rfl) (by kernel_rfl) (by intro _ _ _ h; exact h) (Or.inl ⟨by rfl, ?_⟩) (by assumption) ?_
     rotate_left
     ·(intro w' hSw; (try dsimp only at hSw); go_simp) <;> with_reducible rfl
     try simp only [Act.put, List.setIfInBounds_toArray, List.set_cons_zero, List.set_cons_succ]
     refine wpAnyH_take (i := 6) (v := ?_) (by simp only [List.getElem?_toArray, List.getElem?_cons_zero, List.getElem?_cons_succ]; rfl) (by kernel_rfl) (by kernel_rfl) (by kernel_rfl) (by intro _ _ _ h; exact h) (Or.inl ⟨by rfl, ?_⟩) (by assumption) ?_
     rotate_left
     ·(intro w' hSw; (try dsimp only at hSw); go_simp) <;> with_reducible rfl
     try simp only [Act.put, List.setIfInBounds_toArray, List.set_cons_zero, List.set_cons_succ]
     refine wpAnyH_take (i := 7) (v := ?_) (by simp only [List.getElem?_toArray, List.getElem?_cons_zero, List.getElem?_cons_succ]; rfl) (by kernel_rfl) (by kernel_rfl) (by kernel_rfl) (by intro _ _ _ h; exact h) (Or.inl ⟨by rfl, ?_⟩) (by assumption) ?_
     rotate_left
     ·(intro w' hSw; (try dsimp only at hSw); go_simp) <;> with_reducible rfl
     try simp only [Act.put, List.setIfInBounds_toArray, List.set_cons_zero, List.set_cons_succ]
     refine wpAnyH_take (i := 8) (v := ?_) (by simp only [List.getElem?_toArray, List.getElem?_cons_zero, List.getElem?_cons_succ]; rfl) (by kernel_rfl) (by kernel_rfl) (by kernel_rfl) (by intro _ _ _ h; exact h) (Or.inl ⟨by rfl, ?_⟩) (by assumption) ?_
     rotate_left
     ·(intro w' hSw; (try dsimp only at hSw); go_simp) <;> with_reducible rfl
     try simp only [Act.put, List.setIfInBounds_toArray, List.set_cons_zero, List.set_cons_succ]
     refine wpAnyH_take (i := 9) (v := ?_) (by simp only [List.getElem?_toArray, List.getElem?_cons_zero, List.getElem?_cons_succ]; rfl) (by kernel_rfl) (by kernel_rfl) (by kernel_rfl) (by intro _ _ _ h; exact h) (Or.inl ⟨by rfl, ?_⟩) (by assumption) ?_
     rotate_left
     ·(intro w' hSw; (try dsimp only at hSw); go_simp) <;> with_reducible rfl
     try simp only [Act.put, List.setIfInBounds_toArray, List.set_cons_zero, List.set_cons_succ]
     refine wpAnyH_take (i := 10) (v := ?_) (by simp only [List.getElem?_toArray, List.getElem?_cons_zero, List.getElem?_cons_succ]; rfl) (by kernel_rfl) (by kernel_rfl) (by kernel_rfl) (by intro _ _ _ h; exact h) (Or.inl ⟨by rfl, ?_⟩) (by assumption) ?_
     rotate_left
     ·(intro w' hSw; (try dsimp only at hSw); go_simp) <;> with_reducible rfl
     try simp only [Act.put, List.setIfInBounds_toArray, List.set_cons_zero, List.set_cons_succ]
     refine wpAnyH_take (i := 11) (v := ?_) (by simp only [List.getElem?_toArray, List.getElem?_cons_zero, List.getElem?_cons_succ]; rfl) (by kernel_rfl) (by kernel_rfl) (by kernel_rfl) (by intro _ _ _ h; exact h) (Or.inl ⟨by rfl, ?_⟩) (by assumption) ?_
     rotate_left
     ·(intro w' hSw; (try dsimp only at hSw); go_simp) <;> with_reducible rfl
     try simp only [Act.put, List.setIfInBounds_toArray, List.set_cons_zero, List.set_cons_succ]
     refine wpAnyH_take (i := 12) (v := ?_) (by simp only [List.getElem?_toArray, List.getElem?_cons_zero, List.getElem?_cons_succ]; rfl) (by kernel_rfl) (by kernel_rfl) (by kernel_rfl) (by intro _ _ _ h; exact h) (Or.inl ⟨by rfl, ?_⟩) (by assumption) ?_
     rotate_left
     ·(intro w' hSw; (try dsimp only at hSw); go_simp) <;> with_reducible rfl
     try simp only [Act.put, List.setIfInBounds_toArray, List.set_cons_zero, List.set_cons_succ]
     refine wpAnyH_take (i := 13) (v := ?_) (by simp only [List.getElem?_toArray, List.getElem?_cons_zero, List.getElem?_cons_succ]; rfl) (by kernel_rfl) (by kernel_rfl) (by kernel_rfl) (by intro _ _ _ h; exact h) (Or.inl ⟨by rfl, ?_⟩) (by assumption) ?_
     rotate_left
     ·(intro w' hSw; (try dsimp only at hSw); go_simp) <;> with_reducible rfl
     try simp only [Act.put, List.setIfInBounds_toArray, List.set_cons_zero, List.set_cons_succ]
     refine wpAnyH_ready (rs := [14]) (by kernel_rfl) (by simp) ?_
     refine AllReadyH.cons (by simp only [List.getElem?_toArray, List.getElem?_cons_zero, List.getElem?_cons_succ]; rfl) (fun K hK => ?_) AllReadyH.nil
     go_simp
     go_at_call 14
     go_must ((with_reducible refine (HSH3.out _ HD.out).mono ?_); rintro e w15 ⟨rfl, hb15⟩; have HD := hid (HD.out.trans (hb15.mono HD.out.size)); clear hb15)
     (try go_wp2_with fail)
     refine hK.out _ _ (HG.out _ HD.out) (fun hHeld => ?_)
     clear hK K
     try simp only [Act.put, List.setIfInBounds_toArray, List.set_cons_zero, List.set_cons_succ]
     refine wpAnyH_take (i := 15) (v := ?_) (by simp only [List.getElem?_toArray, List.getElem?_cons_zero, List.getElem?_cons_succ]; rfl) (by kernel_rfl) (by kernel_rfl) (by kernel_rfl) (by intro _ _ _ h; exact h) (Or.inl ⟨by rfl, ?_⟩) (by assumption) ?_
     rotate_left
     ·(intro w' hSw; (try dsimp only at hSw); go_simp) <;> with_reducible rfl
     try simp only [Act.put, List.setIfInBounds_toArray, List.set_cons_zero, List.set_cons_succ]
     refine wpAnyH_take (i := 16) (v := ?_) (by simp only [List.getElem?_toArray, List.getElem?_cons_zero, List.getElem?_cons_succ]; rfl) (by kernel_rfl) (by kernel_rfl) (by kernel_rfl) (by intro _ _ _ h; exact h) (Or.inl ⟨by rfl, ?_⟩) (by assumption) ?_
     rotate_left
     ·(intro w' hSw; (try dsimp only at hSw); go_simp) <;> with_reducible rfl
     try simp only [Act.put, List.setIfInBounds_toArray, List.set_cons_zero, List.set_cons_succ]
     refine wpAnyH_take (i := 17) (v := ?_) (by simp only [List.getElem?_toArray, List.getElem?_cons_zero, List.getElem?_cons_succ]; rfl) (by kernel_rfl) (by kernel_rfl) (by kernel_rfl) (by intro _ _ _ h; exact h) (Or.inl ⟨by rfl, ?_⟩) (by assumption) ?_
     rotate_left
     ·(intro w' hSw; (try dsimp only at hSw); go_simp) <;> with_reducible rfl
     try simp only [Act.put, List.setIfInBounds_toArray, List.set_cons_zero, List.set_cons_succ]
     refine wpAnyH_take (i := 18) (v := ?_) (by simp only [List.getElem?_toArray, List.getElem?_cons_zero, List.getElem?_cons_succ]; rfl) (by kernel_rfl) (by kernel_rfl) (by kernel_rfl) (by intro _ _ _ h; exact h) (Or.inl ⟨by rfl, ?_⟩) (by assumption) ?_
     rotate_left
     ·(intro w' hSw; (try dsimp only at hSw); go_simp) <;> with_reducible rfl
     try simp only [Act.put, List.setIfInBounds_toArray, List.set_cons_zero, List.set_cons_succ]
     refine wpAnyH_take (i := 19) (v := ?_) (by simp only [List.getElem?_toArray, List.getElem?_cons_zero, List.getElem?_cons_succ]; rfl) (by kernel_rfl) (by kernel_rfl) (by kernel_rfl) (by intro _ _ _ h; exact h) (Or.inl ⟨by rfl, ?_⟩) (by assumption) ?_
     rotate_left
     ·(intro w' hSw; (try dsimp only at hSw); go_simp) <;> with_reducible rfl
     try simp only [Act.put, List.setIfInBounds_toArray, List.set_cons_zero, List.set_cons_succ]
     refine wpAnyH_take (i := 20) (v := ?_) (by simp only [List.getElem?_toArray, List.getElem?_cons_zero, List.getElem?_cons_succ]; rfl) (by kernel_rfl) (by kernel_rfl) (by kernel_rfl) (by intro _ _ _ h; exact h) (Or.inl ⟨by rfl, ?_⟩) (by assumption) ?_
     rotate_left
     ·(intro w' hSw; (try dsimp only at hSw); go_simp) <;> with_reducible rfl
     try simp only [Act.put, List.setIfInBounds_toArray, List.set_cons_zero, List.set_cons_succ]
     refine wpAnyH_take (i := 21) (v := ?_) (by simp only [List.getElem?_toArray, List.getElem?_cons_zero, List.getElem?_cons_succ]; rfl) (by kernel_rfl) (by kernel_rfl) (by kernel_rfl) (by intro _ _ _ h; exact h) (Or.inl ⟨by rfl, ?_⟩) (by assumption) ?_
     rotate_left
     ·(intro w' hSw; (try dsimp only at hSw); go_simp) <;> with_reducible rfl
     try simp only [Act.put, List.setIfInBounds_toArray, List.set_cons_zero, List.set_cons_succ]
     refine wpAnyH_take (i := 22) (v := ?_) (by simp only [List.getElem?_toArray, List.getElem?_cons_zero, List.getElem?_cons_succ]; rfl) (by kernel_rfl) (by kernel_rfl) (by kernel_rfl) (by intro _ _ _ h; exact h) (Or.inl ⟨by rfl, ?_⟩) (by assumption) ?_
     rotate_left
     ·(intro w' hSw; (try dsimp only at hSw); go_simp) <;> with_reducible rfl
     try simp only [Act.put, List.setIfInBounds_toArray, List.set_cons_zero, List.set_cons_succ]
     refine wpAnyH_take (i := 23) (v := ?_) (by simp only [List.getElem?_toArray, List.getElem?_cons_zero, List.getElem?_cons_succ]; rfl) (by kernel_rfl) (by kernel_rfl) (by kernel_rfl) (by intro _ _ _ h; exact h) (Or.inl ⟨by rfl, ?_⟩) (by assumption) ?_
     rotate_left
     ·(intro w' hSw; (try dsimp only at hSw); go_simp) <;> with_reducible rfl
     try simp only [Act.put, List.setIfInBounds_toArray, List.set_cons_zero, List.set_cons_succ]
     refine wpAnyH_take (i := 24) (v := undef) (by simp only [List.getElem?_toArray, List.getElem?_cons_zero, List.getElem?_cons_succ]; rfl) (by kernel_rfl) (by kernel_rfl) (by kernel_rfl) (by intro _ _ _ h; exact h) (Or.inr ⟨by rfl, rfl⟩) (by assumption) ?_
     try simp only [Act.put, List.setIfInBounds_toArray, List.set_cons_zero, List.set_cons_succ]
     refine wpAnyH_take (i := 25) (v := undef) (by simp only [List.getElem?_toArray, List.getElem?_cons_zero, List.getElem?_cons_succ]; rfl) (by kernel_rfl) (by kernel_rfl) (by kernel_rfl) (by intro _ _ _ h; exact h) (Or.inr ⟨by rfl, rfl⟩) (by assumption) ?_
     try simp only [Act.put, List.setIfInBounds_toArray, List.set_cons_zero, List.set_cons_succ]
     refine wpAnyH_take (i := 26) (v := undef) (by simp only [List.getElem?_toArray, List.getElem?_cons_zero, List.getElem?_cons_succ]; rfl) (by kernel_rfl) (by kernel_rfl) (by kernel_rfl) (by intro _ _ _ h; exact h) (Or.inr ⟨by rfl, rfl⟩) (by assumption) ?_
     try simp only [Act.put, List.setIfInBounds_toArray, List.set_cons_zero, List.set_cons_succ]
     refine wpAnyH_take (i := 27) (v := undef) (by simp only [List.getElem?_toArray, List.getElem?_cons_zero, List.getElem?_cons_succ]; rfl) (by kernel_rfl) (by kernel_rfl) (by kernel_rfl) (by intro _ _ _ h; exact h) (Or.inr ⟨by rfl, rfl⟩) (by assumption) ?_
     try simp only [Act.put, List.setIfInBounds_toArray, List.set_cons_zero, List.set_cons_succ]
     refine wpAnyH_take (i := 28) (v := undef) (by simp only [List.getElem?_toArray, List.getElem?_cons_zero, List.getElem?_cons_succ]; rfl) (by kernel_rfl) (by kernel_rfl) (by kernel_rfl) (by intro _ _ _ h; exact h) (Or.inr ⟨by rfl, rfl⟩) (by assumption) ?_
     try simp only [Act.put, List.setIfInBounds_toArray, List.set_cons_zero, List.set_cons_succ]
     refine wpAnyH_take (i := 29) (v := undef) (by simp only [List.getElem?_toArray, List.getElem?_cons_zero, List.getElem?_cons_succ]; rfl) (by kernel_rfl) (by kernel_rfl) (by kernel_rfl) (by intro _ _ _ h; exact h) (Or.inr ⟨by rfl, rfl⟩) (by assumption) ?_
     try simp only [Act.put, List.setIfInBounds_toArray, List.set_cons_zero, List.set_cons_succ]
     refine wpAnyH_take (i := 30) (v := undef) (by simp only [List.getElem?_toArray, List.getElem?_cons_zero, List.getElem?_cons_succ]; rfl) (by kernel_rfl) (by kernel_rfl) (by kernel_rfl) (by intro _ _ _ h; exact h) (Or.inr ⟨by rfl, rfl⟩) (by assumption) ?_
     try simp only [Act.put, List.setIfInBounds_toArray, List.set_cons_zero, List.set_cons_succ]
     refine wpAnyH_take (i := 31) (v := undef) (by simp only [List.getElem?_toArray, List.getElem?_cons_zero, List.getElem?_cons_succ]; rfl) (by kernel_rfl) (by kernel_rfl) (by kernel_rfl) (by intro _ _ _ h; exact h) (Or.inr ⟨by rfl, rfl⟩) (by assumption) ?_
     try simp only [Act.put, List.setIfInBounds_toArray, List.set_cons_zero, List.set_cons_succ]
     refine wpAnyH_take (i := 32) (v := undef) (by simp only [List.getElem?_toArray, List.getElem?_cons_zero, List.getElem?_cons_succ]; rfl) (by kernel_rfl) (by kernel_rfl) (by kernel_rfl) (by intro _ _ _ h; exact h) (Or.inr ⟨by rfl, rfl⟩) (by assumption) ?_
     try simp only [Act.put, List.setIfInBounds_toArray, List.set_cons_zero, List.set_cons_succ]
     refine wpAnyH_take (i := 33) (v := ?_) (by simp only [List.getElem?_toArray, List.getElem?_cons_zero, List.getElem?_cons_succ]; rfl) (by kernel_rfl) (by kernel_rfl) (by kernel_rfl) (by intro _ _ _ h; exact h) (Or.inl ⟨by rfl, ?_⟩) (by assumption) ?_
     rotate_left
     ·(intro w' hSw; (try dsimp only at hSw); go_simp) <;> with_reducible rfl
     try simp only [Act.put, List.setIfInBounds_toArray, List.set_cons_zero, List.set_cons_succ]
     refine wpAnyH_take (i := 34) (v := ?_) (by simp only [List.getElem?_toArray, List.getElem?_cons_zero, List.getElem?_cons_succ]; rfl) (by kernel_rfl) (by kernel_rfl) (by kernel_rfl) (by intro _ _ _ h; exact h) (Or.inl ⟨by rfl, ?_⟩) (by assumption) ?_
     rotate_left
     ·(intro w' hSw; (try dsimp only at hSw); go_simp) <;> with_reducible rfl
     try simp only [Act.put, List.setIfInBounds_toArray, List.set_cons_zero, List.set_cons_succ]
     refine wpAnyH_done (by kernel_rfl) ?_ _
     go_wp2_with fail
     go_meet
     exact ⟨rfl, HD⟩
   case rest =>
    obtain ⟨rfl, HBX⟩ := hcut
    have HBZ := hid (HBR14.out.trans (HBX.out.mono HBR14.out.size))
    go_wp2_with fail
    go_roundg (gk - 1)
    case rel => exact ⟨ii + 1, by go_num, by omega, by omega, by rw [HLAST.out], HBZ⟩
    case measure => omega
  ·obtain rfl : gk = 0 := by omega
   obtain rfl : ii = 5 := by omega
   have HBE := HB5.out.trans (HBW.out.mono HB5.out.size)
   have HBF := hid HBE
   clear HBE
   go_wp2
   go_ret
   exact ⟨rfl, HBF.out⟩
end Go.Proofs.YtikiimlmoalbcaaGreatDoor

namespace Go.Proofs.YtikiimlmoalbcaaGreatDoor
open Go.ChangeShapes Go.WideShapes Go.ChangeAt Go.RowKit Go.Lib
set_option linter.unusedVariables false
theorem kOwn : ownKnob Tryz.prog.godebug = none := by kernel_rfl
theorem kLaid : laidOutB Tryz.prog = true := by kernel_rfl
theorem kCells : Tryz.prog.cellsOf 5 = 1 := by kernel_rfl
noncomputable def laidWorld (os : Os) : World :=
  let w0 := World.doorLaid Tryz.prog 400 os
  { w0 with heap := w0.heap.modify 2 fun
      | .cells _ t frozen => .cells (Lib.firstTab.map fun z => Value.int .u8 z).toArray t frozen
      | o => o }
theorem tabs_of {l : List (String × DataW Unit)} {W : World} (h : laidMet Tryz.prog l W) (h1 : ("unicode/utf8.first", Rows.laid_unicode_utf8_first) ∈ l) (h2 : ("unicode/utf8.acceptRanges", Rows.laid_unicode_utf8_acceptRanges) ∈ l) : Tabs W := by
  have e1 : (Rows.laid_unicode_utf8_first : DataW Unit) = Lib.firstData := Go.Pinned.utf8First_eq
  have e2 : (Rows.laid_unicode_utf8_acceptRanges : DataW Unit) = Lib.acceptData := by kernel_rfl
  have r1 := Lib.laidMet.reads h h1
  have r2 := Lib.laidMet.reads h h2
  rw [e1] at r1
  rw [e2] at r2
  exact utf8Tabs_of_readsT (U8Types.of196 Tryz.layValid) ⟨by kernel_rfl, by kernel_rfl, by kernel_rfl, by kernel_rfl, by kernel_rfl, by kernel_rfl, by kernel_rfl⟩ r1 r2
theorem rdU_of {W : World} {a : Addr} {len cap : Nat} {zs : List Int} (hl : len ≤ cap) (hm : cap ≤ maxLen) (hz : zs.length = cap) (hcell : ∀ i, i < zs.length → W.cell? (a.add i) = some (.int .u8 (zs.getD i 0))) (hw : ∀ n ∈ zs, (Lit.int .u8 n).wf = true) :
    RdU W W.heap.size (some a) len cap := by
  refine ⟨hl, hm, fun hp => ?_⟩
  obtain ⟨b, o, spot⟩ := a
  have hspot : spot = none := by simpa [Addr.add] using World.cell?_spot (hcell 0 (by omega))
  subst hspot
  have hlt : b < W.heap.size := by
    have h := hcell 0 (by omega)
    exact World.block_lt_of_cell? W (Addr.add ⟨b, o, none⟩ 0) h
  refine ⟨b, o, rfl, hlt, fun i hi => ?_⟩
  have hi' : i < zs.length := by omega
  have hb := bounds_u8 (hw (zs.getD i 0) (by simp [List.getD, hi']))
  refine ⟨(zs.getD i 0).toNat, by omega, ?_⟩
  rw [show (((zs.getD i 0).toNat : Nat) : Int) = zs.getD i 0 from by omega, ← Addr.add_lit]
  exact hcell i hi'
end Go.Proofs.YtikiimlmoalbcaaGreatDoor
