/- Proved: called with any arguments of its types, OverlapFirst returns true, and its arguments read as before. Go's own tables hold what the program's text lays, which the card ties; no other conditions. -/
import Derived.Deep.RegionHeld3
import Derived.Deep.Cut
import Derived.Deep.CutRange
import Derived.Test.YtikiimlmoalbcaaGreatDoorOFibr
import Derived.Test.YtikiimlmoalbcaaGreatDoorOFibj
import Derived.Test.YtikiimlmoalbcaaGreatDoorTie
import Derived.Test.YtikiimlmoalbcaaGreatDoorCards
import Derived.Carry
import Derived.SizedLaws
import Derived.ProofKit
import Derived.OpenShut
import Derived.ChangeSlices
import Derived.SliceStrings
import Derived.LaidLaws
import Derived.LaidMore
import Derived.Lib.LaidU8T
import Derived.PinnedBridge
import Derived.SevenTiedAt
import Derived.Test.YtikiimlmoalbcaaGreatDoorOFiae
import Derived.Test.YtikiimlmoalbcaaGreatDoorOFiaa
import Derived.Test.YtikiimlmoalbcaaGreatDoorOFiay
set_option linter.unusedVariables false
set_option linter.unusedSimpArgs false
namespace Go.Proofs.YtikiimlmoalbcaaGreatDoor
open Go.RowKit
theorem own_srcS {w : World} {base n c : Nat} {a : Option Addr} {e : TypeId} {xs : List Value} (h : w.ownsRow base e 1 (.slice a n c) n xs) (hn : 0 < n) : ∃ ad, a = some ad ∧ ∀ j u, xs[j]? = some u → w.cell? (ad.add j) = some u := by
  obtain ⟨hl, h | ⟨g, cap, cur, e1, h2, h3, h4, h5, h6, h7⟩⟩ := h
  · exact absurd h.2 (by omega)
  · obtain ⟨rfl, -, rfl⟩ := Value.slice.inj e1
    refine ⟨_, rfl, fun j u hj => ?_⟩
    rw [Addr.add_lit, Nat.zero_add]
    rw [← h7, List.getElem?_take] at hj
    split at hj
    · unfold World.cell?
      simp only [h3]
      simpa using hj
    · cases hj
set_option maxRecDepth 100000 in
set_option maxHeartbeats 8000000 in
theorem law19_first (hsane : ∀ W : World, Tabs W → Fr.OneAt W → Calls Tryz.prog 18 #[] W (Ret W (.bool true))) (sa : Option Addr) (sn sc N1 : Nat) (h1 : N1 < 256) (w : World) (hs : RdU w w.heap.size sa sn sc) (hT : Tabs w) (ho : Fr.OneAt w) :
  Calls Tryz.prog 6 #[.slice sa sn sc, .int .u8 (N1 : Int)] w (Ret w (.bool true)) := by
 obtain ⟨i0, hi, hz0, hz1, hz2⟩ := info_parts info_str
 have HS := hid hs
 have HSN := hid (hsane w hT ho)
 have HT := hid hT
 have HO := hid ho
 clear hs hT ho hsane
 obtain ⟨n, hnd⟩ : ∃ k, k = N1 % 6 := ⟨_, rfl⟩
 have hn6 : n ≤ 5 := by omega
 have HN := hid hnd
 clear hnd
 go_enter Tryz.func6, Tryz.ntmps6
 generalize hLA : Code.loop _ = LA
 go_wp2_with fail
 with_reducible refine HSN.out.mono ?_
 rintro e w1 ⟨rfl, hb1⟩
 have HB1 := hid hb1
 have HU1 := hid (rdU_laterB HS.out hb1)
 have hz1' := hb1.size
 clear hb1
 go_wp2_with fail
 with_reducible refine (mill_New sa sn sc _ HU1.out).mono ?_
 rintro e w2 ⟨rfl, hd2, hb2⟩
 have HD2 := hid hd2
 have HB2 := hid (HB1.out.trans (hb2.mono HB1.out.size))
 have hzg : w1.heap.size < w2.heap.size := hd2.lt
 clear hd2 hb2 HU1
 obtain ⟨g, hg⟩ : ∃ g, g = w1.heap.size := ⟨_, rfl⟩
 rw [← hg] at HD2 hz1' hzg ⊢
 clear hg
 have HIX := hid (dice_Index g w w2 HD2.out HT.out HB2.out hz1')
 go_wp2_with fail
 with_reducible refine HIX.out.mono ?_
 clear HIX
 rintro e w3 ⟨ts, ev, vv, lv, rfl, hok, hrx, hd3, hr3⟩
 have hB3 := HB2.out.trans (hr3.below (B' := w.heap.size) hz1' HB2.out.size)
 have HROK := hid (rolled_ok hok)
 have HRX := hid hrx
 have hz3 := hr3.size
 have HD3 := hid hd3
 have HB3 := hid hB3
 obtain ⟨ea, ec, rfl, -⟩ := id hrx.ents
 obtain ⟨va, vc, rfl, -⟩ := id hrx.vals
 obtain ⟨lf, ⟨la, lc, rfl, -⟩, -⟩ := id hrx.lists
 generalize cvsL ts = cs at *
 clear hok hrx hd3 hr3 hB3
 have HX4 := hid (BoxN.new w3 #[.slice ea (indexOf cs).ents.length ec, .slice va (indexOf cs).vals.length vc, .slice la (indexOf cs).lists.length lc] 30)
 have HB4 := hid (HB3.out.alloc HB3.out.size (.cells #[.slice ea (indexOf cs).ents.length ec, .slice va (indexOf cs).vals.length vc, .slice la (indexOf cs).lists.length lc] 30))
 have HD4 := hid (HD3.out.alloc (.cells #[.slice ea (indexOf cs).ents.length ec, .slice va (indexOf cs).vals.length vc, .slice la (indexOf cs).lists.length lc] 30))
 have HRX4 := hid (HRX.out.keep (w' := w3.alloc (.cells #[.slice ea (indexOf cs).ents.length ec, .slice va (indexOf cs).vals.length vc, .slice la (indexOf cs).lists.length lc] 30)) fun p hp => World.cell?_alloc_lt _ _ _ hp.2)
 have x0 := HX4.out.cell 0 rfl
 have x1 := HX4.out.cell 1 rfl
 have x2 := HX4.out.cell 2 rfl
 have hsz4 : w3.heap.size < (w3.alloc (.cells #[.slice ea (indexOf cs).ents.length ec, .slice va (indexOf cs).vals.length vc, .slice la (indexOf cs).lists.length lc] 30)).heap.size := HX4.out.lt
 have HQ := hid (law19_query g _ _ _ (indexOf cs) _ (w3.alloc (.cells #[.slice ea (indexOf cs).ents.length ec, .slice va (indexOf cs).vals.length vc, .slice la (indexOf cs).lists.length lc] 30)) HD4.out HRX4.out (fun k hk => ⟨Nat.lt_trans hk.2 hsz4, by have h5 := hk.1; omega⟩) HROK.out.2.1)
 go_wp2_with fail
 with_reducible refine HQ.out.mono ?_
 clear HQ x0 x1 x2
 obtain ⟨w4, hw4⟩ : ∃ V, V = w3.alloc (.cells #[.slice ea (indexOf cs).ents.length ec, .slice va (indexOf cs).vals.length vc, .slice la (indexOf cs).lists.length lc] 30) := ⟨_, rfl⟩
 rw [← hw4] at HX4 HB4 HRX4 hsz4 ⊢
 clear hw4 HD4
 rintro e w5 ⟨qa, qc, q, rfl, hown, hasc, hql, hd5, hr5⟩
 have HB5 := hid (HB4.out.trans (hr5.below (B' := w.heap.size) hz1' HB4.out.size))
 have HX5 := hid (show BoxN w5 w3.heap.size 30 #[.slice ea (indexOf cs).ents.length ec, .slice va (indexOf cs).vals.length vc, .slice la (indexOf cs).lists.length lc] from (hr5.block _ HX4.out.lt (by omega)).trans HX4.out)
 have HRX5 := hid (HRX4.out.keep (w' := w5) fun p hp => hr5.cell (p := p) (Nat.lt_trans hp.2 hsz4) (by have h5 := hp.1; omega))
 have HQ5 := hid hown
 have HASC := hid hasc
 have HD5 := hid hd5
 have hz45 := hr5.size
 have hgw4 : g < w4.heap.size := by omega
 have HX4L := hid (show w3.heap.size < w5.heap.size by have := HX4.out.lt; omega)
 clear hown hasc hd5 hr5 HX4 HB4 HRX4
 go_wp2_with fail
 with_reducible refine (dice_Texts g 3 w5 HD5.out (by omega) (by omega)).mono ?_
 rintro e w6 ⟨ta, tc, xs, rfl, hown6, hxl, -, hd6, hr6⟩
 have HQ6 := hid (own_roll HQ5.out hr6 (Nat.le_refl _) hgw4)
 have HX6 := hid (show BoxN w6 w3.heap.size 30 #[.slice ea (indexOf cs).ents.length ec, .slice va (indexOf cs).vals.length vc, .slice la (indexOf cs).lists.length lc] from (hr6.block _ HX5.out.lt (by omega)).trans HX5.out)
 have HRX6 := hid (HRX5.out.keep (w' := w6) fun p hp => hr6.cell (p := p) (by have := hp.2; omega) (by have h5 := hp.1; omega))
 have HB6 := hid (HB5.out.trans (hr6.below (B' := w.heap.size) hz1' HB5.out.size))
 have HX6O := hid hown6
 have hz56 := hr6.size
 have hxl3 : xs.length ≤ 3 := by omega
 obtain ⟨xl, hxle⟩ : ∃ xl, xl = xs.length := ⟨_, rfl⟩
 obtain ⟨ql, hqle⟩ : ∃ ql, ql = q.length := ⟨_, rfl⟩
 have HXL := hid hxle
 have HQL := hid hqle
 rw [← hxle] at HX6O hxl3 ⊢
 rw [← hqle] at HQ6 hql ⊢
 clear hown6 hd6 hr6 HD5 HRX5 HX5 hxl hxle hqle
 go_wp2_with (at_builtin; refine Fr.wpList_append_any _ rfl (.tmp 27) (.tmp 28) 27 27 rfl w5.heap.size 9 9 i0 (.string ⟨#[]⟩) 1 16 Tryz.underlying27 Tryz.underlying27 hi hz0 hz1 hz2 rfl (by decide) (.slice ta xl tc) xl (xs.map Value.string) rfl HX6O.out qa ql qc (q.map Value.string) rfl (by rw [List.length_map, HQL.out, Nat.mul_one]) (fun h => own_srcS HQ6.out h) (by intro u hu; obtain ⟨s, -, rfl⟩ := List.mem_map.1 hu; rfl) (by unfold maxLen; omega) (by omega) (by omega) ?_; intro v7 w7 hown7 hg7 hiff7; obtain ⟨a7, c7, rfl⟩ := own_slice hown7; have HOWN7 := hid hown7; have HG7 := hid hg7; clear hown7 hg7 hiff7)
 have hown7 : w7.ownsRow w5.heap.size 9 1 (.slice a7 (xl + ql) c7) (xs ++ q).length ((xs ++ q).map Value.string) := by
  rw [List.map_append, List.length_append, ← HXL.out, ← HQL.out]
  exact HOWN7.out
 have hrowb : ∀ k, (Value.slice ta xl tc).ownBlock = some k → w5.heap.size ≤ k := fun k hk => (HX6O.out.lt k hk).1
 have HX7 := hid (HX6.out.grown HG7.out (fun e => by have := hrowb _ e.symm; have := HX4L.out; omega))
 have HRX7 := hid (HRX6.out.keep (w' := w7) fun p hp => World.cell?_of_block (HG7.out.block _ (by have := hp.2; omega) (fun e => by have := hrowb _ e.symm; have := hp.2; omega)))
 have HQ7 := hid (own_keptB HQ6.out HG7.out fun b hb h2 => by
  have h3 := hrowb b h2
  have h4 := (HQ5.out.lt b (by rw [← HQL.out]; exact hb)).2
  omega)
 have HB7 := hid (Below.grown HB6.out HG7.out HB6.out.size (fun k hk => by have := hrowb k hk; have := HB5.out.size; omega))
 have hz67 := HG7.out.size
 have HST := hid (ref_Set (.slice a7 (xl + ql) c7) (xs ++ q) w7.heap.size w7 (rdS_of_own hown7) (Nat.le_refl _) (by rw [List.length_append, ← HXL.out, ← HQL.out]; omega))
 have hml := setOfL_len (xs ++ q)
 rw [List.length_append, ← HXL.out, ← HQL.out] at hml
 have HMA := hid (setOfL_asc (xs ++ q))
 have HMS : Hid (∀ x ∈ q, x ∈ setOfL (xs ++ q)) := hid (fun x hx => (setOfL_mem_iff _ _).2 (List.mem_append.2 (.inr hx)))
 clear hown7 hrowb
 generalize setOfL (xs ++ q) = more at *
 with_reducible refine HST.out.mono ?_
 rintro e w8 ⟨ma, mc, rfl, hown8, hb8⟩
 have HB8 := hid (HB7.out.trans (hb8.mono HB7.out.size))
 have HX8 := hid (HX7.out.below hb8 HX7.out.lt)
 have hz78 := hb8.size
 have HRX8 := hid ((HRX7.out.keep (w' := w8) fun p hp => hb8.cell (p := p) (by have := hp.2; omega)).more fun k hk => (show k < w8.heap.size by have := hk.2; omega))
 have HINQ := hid (show SrcIn w8 cs q (.slice ea (indexOf cs).ents.length ec) (.slice va (indexOf cs).vals.length vc) (.slice la (indexOf cs).lists.length lc) (.slice qa q.length qc) from
  ⟨HROK.out.1, HRX8.out, by have h := rdS_of_own (xs := q) (v := .slice qa ql qc) (by rw [← HQL.out]; exact ownZ_below HQ7.out hb8); rw [HQL.out] at h; exact h, HASC.out, by rw [← HQL.out]; omega⟩)
 have HINM := hid (show SrcIn w8 cs more (.slice ea (indexOf cs).ents.length ec) (.slice va (indexOf cs).vals.length vc) (.slice la (indexOf cs).lists.length lc) (.slice ma more.length mc) from
  ⟨HROK.out.1, HRX8.out, rdS_of_own hown8, HMA.out, by omega⟩)
 have HONE := hid (fun W (hW : Below w8.heap.size w8 W) => HO.out.below (HB8.out.trans (hW.mono HB8.out.size)))
 have HTOP := hid (fun W k (hW : Below w8.heap.size w8 W) (hk : k ≤ 1024) => over_Top (HINQ.out.later hW) k hk (HONE.out W hW))
 have HCQ := hid (fun W c (hW : Below w8.heap.size w8 W) (hc : c < cs.length) => over_Count (HINQ.out.later hW) c hc)
 have HCM := hid (fun W c (hW : Below w8.heap.size w8 W) (hc : c < cs.length) => over_Count (HINM.out.later hW) c hc)
 have HCOM := hid (fun c => com_more (cs := cs) (asc_nodupB HASC.out) HMS.out c)
 obtain ⟨S, hS⟩ := hits_exist (overlap_sco q.length) (asc_nodupB HASC.out) (cs := cs)
 have HSS := hid hS
 have hel : (indexOf cs).ents.length = cs.length := ents_len cs
 rw [← HQL.out] at HTOP HCQ HCOM
 clear hown8 hb8 HST HQ5 HQ6 HQ7 HRX6 HRX7 HRX8 HX6 HX7 HOWN7 HG7 HX6O HMA HMS hS
 obtain ⟨ml, hmle⟩ : ∃ ml, ml = more.length := ⟨_, rfl⟩
 rw [← hmle] at HCM HCOM hml ⊢
 clear hmle HINQ HINM
 generalize (indexOf cs).vals.length = nv at *
 generalize (indexOf cs).lists.length = nl at *
 rw [hel] at HTOP HCQ HCM HX8 ⊢
 clear hel
 have x0 := HX8.out.cell 0 rfl
 have x1 := HX8.out.cell 1 rfl
 have x2 := HX8.out.cell 2 rfl
 have e2 : (N1 : Int) % 6 = (n : Int) := by have := HN.out; omega
 have HT1 := hid (HTOP.out w8 n (Below.refl _ _) (by omega))
 go_wp2_with fail
 rw [e2]
 clear e2
 with_reducible refine HT1.out.mono ?_
 rintro e w9 ⟨v1, c1, H1, ds1, l1, k1, ln1, lc1, cn1, cc1, rfl, hrd1, hall1, -, hb9⟩
 have hH1 := hall1 S HSS.out
 have hl1 : ds1.length = min n S.length := by rw [hrd1.len, hH1, List.length_take]
 obtain ⟨L1, hL1⟩ : ∃ L, L = ds1.length := ⟨_, rfl⟩
 have HR1 := hid (hrd1.later ((Below.refl w9.heap.size w9).alloc (Nat.le_refl _) (.cells #[.slice l1 ln1 lc1, .slice k1 cn1 cc1] 36)))
 rw [← hL1] at HR1 hl1 ⊢
 rw [hH1] at HR1
 have HLE1 := hid hl1
 clear hl1
 have HDL1 := hid hL1.symm
 have HB9 := hid (hb9.alloc hb9.size (.cells #[.slice l1 ln1 lc1, .slice k1 cn1 cc1] 36))
 have hX9 := HX8.out.below HB9.out HX8.out.lt
 clear x0 x1 x2 hrd1 hall1 hb9 hH1 hL1 HT1
 have x0 := hX9.cell 0 rfl
 have x1 := hX9.cell 1 rfl
 have x2 := hX9.cell 2 rfl
 clear hX9
 have HT2 := hid (HTOP.out _ (n + 1) HB9.out (by omega))
 rw [show (((n + 1 : Nat)) : Int) = (n : Int) + 1 by omega] at HT2
 go_wp2_with fail
 with_reducible refine HT2.out.mono ?_
 rintro e w10 ⟨v2, c2, H2, ds2, l2, k2, ln2, lc2, cn2, cc2, rfl, hrd2, hall2, -, hb10⟩
 have hH2 := hall2 S HSS.out
 have hl2 : ds2.length = min (n + 1) S.length := by rw [hrd2.len, hH2, List.length_take]
 obtain ⟨L2, hL2⟩ : ∃ L, L = ds2.length := ⟨_, rfl⟩
 have HR2 := hid (hrd2.later ((Below.refl w10.heap.size w10).alloc (Nat.le_refl _) (.cells #[.slice l2 ln2 lc2, .slice k2 cn2 cc2] 36)))
 rw [← hL2] at HR2 hl2 ⊢
 rw [hH2] at HR2
 have hl1 := HLE1.out
 have HDL2 := hid hL2.symm
 have HB10 := hid ((HB9.out.trans (hb10.mono HB9.out.size)).alloc (HB9.out.trans (hb10.mono HB9.out.size)).size (.cells #[.slice l2 ln2 lc2, .slice k2 cn2 cc2] 36))
 have HR1 := hid ((HR1.out.later hb10).later ((Below.refl w10.heap.size w10).alloc (Nat.le_refl _) (.cells #[.slice l2 ln2 lc2, .slice k2 cn2 cc2] 36)))
 have hc2 : L2 ≤ c2 := by
  obtain ⟨a, c, e, h5, -⟩ := HR2.out.mem
  obtain ⟨-, -, rfl⟩ := Value.slice.inj e
  rw [HDL2.out] at h5
  exact h5
 have hL12 : L1 ≤ L2 := by omega
 have hL1c : (L1 : Int) ≤ (c2 : Int) := by omega
 have hL10 : (0 : Int) ≤ (L1 : Int) := by omega
 have hL1n : L1 ≤ n := by omega
 have hL2n : L2 ≤ n + 1 := by omega
 have hg4 : ¬ (L1 : Int) + 1 < (L2 : Int) := by omega
 have hg1 : decide (L2 < L1) = false := decide_eq_false (by omega)
 have hg2 : decide ((L1 : Int) + 1 < (L2 : Int)) = false := decide_eq_false (by omega)
 have hg3 : decide (L1 + 1 < L2) = false := decide_eq_false (by omega)
 have htk : (S.take (n + 1)).take L1 = S.take n := by
  rw [List.take_take, hl1]
  have e1 : min (min n S.length) (n + 1) = min n S.length := by omega
  rw [e1, ← List.take_take, List.take_length]
 have HR2T := hid (HR2.out.take (n := L1) (by rw [HDL2.out]) (by rw [HDL2.out]; exact hL12))
 rw [htk] at HR2T
 have HSH := hid (ref_SameHits HR1.out HR2T.out (by rw [List.length_take]; omega))
 have hX10 := HX8.out.below HB10.out HX8.out.lt
 have HX10 := hid hX10
 clear hX10 hrd2 hall2 hb10 hH2 hL2 HT2 x0 x1 x2 htk
 obtain ⟨w11, hw11⟩ : ∃ V, V = w10.alloc (.cells #[.slice l2 ln2 lc2, .slice k2 cn2 cc2] 36) := ⟨_, rfl⟩
 have hlt : (L1 < n ∧ decide (L1 < n) = true ∧ decide (L1 < L2) = false) ∨ (¬ L1 < n ∧ decide (L1 < n) = false) := by
  by_cases h : L1 < n
  ·exact .inl ⟨h, decide_eq_true h, decide_eq_false (by omega)⟩
  ·exact .inr ⟨h, decide_eq_false h⟩
 have HLT := hid hlt
 clear hl1 hl2 hlt hL12
 rw [← hw11] at HSH HB10 HX10
 go_wp2_with fail
 rw [← hw11]
 clear hw11
 with_reducible refine HSH.out.mono ?_
 rintro e w12 ⟨rfl, hb12⟩
 have HB12 := hid (HB10.out.trans (hb12.mono HB10.out.size))
 have HX12 := hid (HX10.out.below hb12 HX10.out.lt)
 have x0 := HX12.out.cell 0 rfl
 have hmany := HROK.out.2.2
 have HBW8 := HB8
 clear hb12 HSH HB10 HX10 HR1 HR2 HR2T HSS HTOP HLE1 HDL1 HDL2
 rcases HLT.out with ⟨hlt, hlb, hle⟩ | ⟨hlt, hlb⟩
 all_goals
  go_wp2_with fail
  subst hLA
  clear x0
  go_loopg [97, 16] cs.length (fun K i u wr => ∃ p : Nat, i = .int .i64 (p : Int) ∧ p + K = cs.length ∧ Hid (Below w8.heap.size w8 wr) ∧ Hid (BoxN wr w3.heap.size 30 #[.slice ea cs.length ec, .slice va nv vc, .slice la nl lc]))
  case atStart => exact ⟨0, rfl, by omega, HB12, HX12⟩
  case round =>
   obtain ⟨p, rfl, hp0, HBR, HXR⟩ := hrel
   by_cases hp : 0 < gk
   ·have hpl : p < cs.length := by omega
    have hpi : (p : Int) < (cs.length : Int) := by omega
    have HQC := hid (fun W (hW : Below w8.heap.size w8 W) => HCQ.out W p hW hpl)
    have HMC := hid (fun W (hW : Below w8.heap.size w8 W) => HCM.out W p hW hpl)
    obtain ⟨hcm1, hcm2⟩ := HCOM.out p
    have hcq : comC cs q p ≤ ql := by rw [HQL.out]; exact com_le_q p
    have hcmm : comC cs more p ≤ 131072 := by omega
    generalize comC cs q p = cq at *
    generalize comC cs more p = cm at *
    have hd1 : decide (cm < cq) = false := decide_eq_false (by omega)
    have hd2 : decide ((cq : Int) + (ml : Int) - (ql : Int) < (cm : Int)) = false := decide_eq_false (by omega)
    have hd3 : ¬ ((cq : Int) + (ml : Int) - (ql : Int) < (cm : Int)) := by omega
    have HD4 := hid hd3
    have hw1 : IntKind.i64.wrap ((cq : Int) + (ml : Int)) = (cq : Int) + (ml : Int) := by rw [IntKind.wrap_i64]; omega
    have hw2 : IntKind.i64.wrap ((cq : Int) + (ml : Int) - (ql : Int)) = (cq : Int) + (ml : Int) - (ql : Int) := by rw [IntKind.wrap_i64]; omega
    have HG := hid (fun W (hW : Below wr.heap.size wr W) => (by
     have h1 := HXR.out.below hW HXR.out.lt
     exact ⟨h1.cell 0 rfl, h1.cell 1 rfl, h1.cell 2 rfl⟩ : W.cell? ⟨w3.heap.size, 0, none⟩ = some (.slice ea cs.length ec) ∧ W.cell? ⟨w3.heap.size, 1, none⟩ = some (.slice va nv vc) ∧ W.cell? ⟨w3.heap.size, 2, none⟩ = some (.slice la nl lc)))
    have HC := hid ((Below.refl wr.heap.size wr).drew)
    go_upto_region 15 with fail
    go_region_held3 (fun W => W.cell? ⟨w3.heap.size, 0, none⟩ = some (.slice ea cs.length ec) ∧ W.cell? ⟨w3.heap.size, 1, none⟩ = some (.slice va nv vc) ∧ W.cell? ⟨w3.heap.size, 2, none⟩ = some (.slice la nl lc))
     (first | exact HG.out _ HC.out | go_keep)
     ((go_at_call 23; go_must ((first
      | ((with_reducible refine (HQC.out _ (Fr.belowT HBR.out HC.out)).mono ?_); rintro e w15 ⟨rfl, hb15⟩; have HC := hid (HC.out.trans (hb15.mono HC.out.size)); clear hb15)
      | ((with_reducible refine (HMC.out _ (Fr.belowT HBR.out HC.out)).mono ?_); rintro e w15 ⟨rfl, hb15⟩; have HC := hid (HC.out.trans (hb15.mono HC.out.size)); clear hb15)))))
    all_goals
     have hd5 := HD4.out
     go_wp2_with fail
     go_roundg (gk - 1)
     case rel => exact ⟨p + 1, by go_num, by omega, hid (HBR.out.trans (HC.out.mono HBR.out.size)), hid (HXR.out.below HC.out HXR.out.lt)⟩
     case measure => omega
   ·obtain rfl : gk = 0 := by omega
    obtain rfl : p = cs.length := by omega
    have HBF := hid (HB8.out.trans (HBR.out.mono HB8.out.size))
    go_wp2
    go_ret
    exact ⟨rfl, HBF.out⟩
end Go.Proofs.YtikiimlmoalbcaaGreatDoor

namespace Go.Proofs.YtikiimlmoalbcaaGreatDoor
open Go.RowKit
theorem law19_firstS (sa : Option Addr) (sn sc N1 : Nat) (h1 : N1 < 256) (w : World) (hs : RdU w w.heap.size sa sn sc) (hT : Tabs w) (ho : Fr.OneAt w) :
    Calls Tryz.prog 6 #[.slice sa sn sc, .int .u8 (N1 : Int)] w (Ret w (.bool true)) :=
  law19_first (fun W _ ho => law19_sane W ho) sa sn sc N1 h1 w hs hT ho
end Go.Proofs.YtikiimlmoalbcaaGreatDoor

namespace Go.Proofs.YtikiimlmoalbcaaGreatDoor
open Go.ChangeShapes Go.WideShapes Go.ChangeAt Go.RowKit Go.Lib
set_option linter.unusedVariables false
theorem kOwn : ownKnob Tryz.prog.godebug = none := by kernel_rfl
theorem kLaid : laidOutB Tryz.prog = true := by kernel_rfl
theorem kCells : Tryz.prog.cellsOf 5 = 1 := by kernel_rfl
noncomputable def laidWorld (os : Os) : World :=
  let w0 := World.doorLaid Tryz.prog 400 os
  { w0 with heap := w0.heap.modify 2 fun
      | .cells _ t frozen => .cells (Lib.firstTab.map fun z => Value.int .u8 z).toArray t frozen
      | o => o }
theorem tabs_of {l : List (String × DataW Unit)} {W : World} (h : laidMet Tryz.prog l W) (h1 : ("unicode/utf8.first", Rows.laid_unicode_utf8_first) ∈ l) (h2 : ("unicode/utf8.acceptRanges", Rows.laid_unicode_utf8_acceptRanges) ∈ l) : Tabs W := by
  have e1 : (Rows.laid_unicode_utf8_first : DataW Unit) = Lib.firstData := Go.Pinned.utf8First_eq
  have e2 : (Rows.laid_unicode_utf8_acceptRanges : DataW Unit) = Lib.acceptData := by kernel_rfl
  have r1 := Lib.laidMet.reads h h1
  have r2 := Lib.laidMet.reads h h2
  rw [e1] at r1
  rw [e2] at r2
  exact utf8Tabs_of_readsT (U8Types.of196 Tryz.layValid) ⟨by kernel_rfl, by kernel_rfl, by kernel_rfl, by kernel_rfl, by kernel_rfl, by kernel_rfl, by kernel_rfl⟩ r1 r2
theorem rdU_of {W : World} {a : Addr} {len cap : Nat} {zs : List Int} (hl : len ≤ cap) (hm : cap ≤ maxLen) (hz : zs.length = cap) (hcell : ∀ i, i < zs.length → W.cell? (a.add i) = some (.int .u8 (zs.getD i 0))) (hw : ∀ n ∈ zs, (Lit.int .u8 n).wf = true) :
    RdU W W.heap.size (some a) len cap := by
  refine ⟨hl, hm, fun hp => ?_⟩
  obtain ⟨b, o, spot⟩ := a
  have hspot : spot = none := by simpa [Addr.add] using World.cell?_spot (hcell 0 (by omega))
  subst hspot
  have hlt : b < W.heap.size := by
    have h := hcell 0 (by omega)
    exact World.block_lt_of_cell? W (Addr.add ⟨b, o, none⟩ 0) h
  refine ⟨b, o, rfl, hlt, fun i hi => ?_⟩
  have hi' : i < zs.length := by omega
  have hb := bounds_u8 (hw (zs.getD i 0) (by simp [List.getD, hi']))
  refine ⟨(zs.getD i 0).toNat, by omega, ?_⟩
  rw [show (((zs.getD i 0).toNat : Nat) : Int) = zs.getD i 0 from by omega, ← Addr.add_lit]
  exact hcell i hi'
end Go.Proofs.YtikiimlmoalbcaaGreatDoor

namespace Go.Proofs.YtikiimlmoalbcaaGreatDoor
open Go.ChangeShapes Go.RowKit Go.Lib
theorem one_named : Tryz.prog.globalNamed "tablefinder/fraction.one" = some 0 := by kernel_rfl
theorem one_type : (Tryz.prog.globals[(0 : Nat)]?).map (·.type) = some 163 := by kernel_rfl
theorem kCells32 : Tryz.prog.cellsOf 132 = 1 := by kernel_rfl
theorem one_var {W : World} {cs : Array Value} {v : Value} (h : W.var? Tryz.prog "tablefinder/fraction.one" = some cs) (hc : cs.toList = [v]) : W.cell? ⟨0, 0, none⟩ = some v := by
  unfold World.var? at h
  rw [one_named] at h
  simp only [Option.bind_some] at h
  split at h
  · rename_i c t fr hb
    obtain rfl := Option.some.inj h
    have e : c = #[v] := by cases c; simp_all
    subst e
    simp [World.cell?, hb]
  · cases h
theorem one_of {l : List (String × DataW Unit)} {W : World} (h : laidMet Tryz.prog l W) (h1 : ("tablefinder/fraction.one", Rows.laid_tablefinder_fraction_one) ∈ l) : Fr.OneAt W := by
  obtain ⟨g', t', cs, fuel, p, hg', ht', hvar, hd⟩ := laidMet.reads h h1
  obtain rfl := Option.some.inj (one_named.symm.trans hg')
  obtain rfl := Option.some.inj (one_type.symm.trans ht')
  rcases open_ints Tryz.underlying163 Tryz.underlying132 kCells32 hd with ⟨hcs, hx⟩ | ⟨a, len, cap, zs, hcs, -, hl, hm, hz, hx, hcell, -⟩
  · have := congrArg Prod.fst hx
    cases this
  · have hx1 := congrArg Prod.fst hx
    simp only [Rows.laid_tablefinder_fraction_one, DataW.slice.injEq] at hx1
    obtain ⟨e1, e2⟩ := hx1
    have hz' : zs.length = cap := by simpa using hz
    have l1 := congrArg List.length e1
    have l2 := congrArg List.length e2
    simp [lits] at l1 l2
    have hlen : len = 1 := by omega
    have hcap : cap = 1 := by omega
    subst hlen hcap
    obtain ⟨z, rfl⟩ : ∃ z, zs = [z] := List.length_eq_one_iff.1 hz'
    simp [lits] at e1
    subst e1
    have hc := hcell 0 (by simp)
    have hsp := World.cell?_spot hc
    obtain ⟨b, o, spot⟩ := a
    have hspot : spot = none := by simpa [Addr.add] using hsp
    subst hspot
    have hlt : b < W.heap.size := World.block_lt_of_cell? W (Addr.add ⟨b, o, none⟩ 0) hc
    have hv := one_var hvar hcs
    have hgl : (0 : Nat) < W.heap.size := World.block_lt_of_cell? W ⟨0, 0, none⟩ hv
    have hd1 : Fr.dig 1 = [1] := Fr.dig_one_digit (by omega) (by omega)
    refine ⟨_, _, hv, ?_, hgl⟩
    rw [hd1]
    refine ⟨some ⟨b, o, none⟩, 1, rfl, by decide, hm, ?_, fun _ => ⟨b, o, rfl, hlt, fun i hi => ?_⟩⟩
    · rw [← hd1]; exact Fr.digs_dig 1
    have hi0 : i = 0 := by simpa using hi
    subst hi0
    rw [← Addr.add_lit]
    exact hc
end Go.Proofs.YtikiimlmoalbcaaGreatDoor

namespace Go.Proofs.YtikiimlmoalbcaaGreatDoor
open Go.ChangeShapes Go.WideShapes Go.ChangeAt Go.RowKit Go.Lib
set_option linter.unusedVariables false
theorem door_met (os : Os) (args : Array Value) : laidMetH Tryz.prog Rows.overlapFirstRow.laid ((laidWorld os).forCall (fun _ _ => 0) ⟨#[], args, []⟩).memory :=
  laidMetH_of_parts3 (fuel := 8) (laidMet_of_run' 8 (by kernel_rfl) (by kernel_rfl)) (by kernel_rfl) (by kernel_rfl)
set_option maxRecDepth 100000 in
theorem lifted (os : Os) (started : os.Started) (H : Type) (enc : TypeId × Value → H) :
  ReturnsInHanded {} Tryz.checked os 6 .any (fun w args => (Rows.overlapFirstSpec.pre enc Tryz.prog Tryz.f6 [] false w args ∧ laidMetH Tryz.prog Rows.overlapFirstRow.laid w) ∧ sizedMet enc Tryz.prog Tryz.f6 (OpenSpec.ofChange Rows.overlapFirstSpec) false w args)
   (Rows.overlapFirstSpec.post enc Tryz.prog Tryz.f6 false true false false) := by
 refine returnsInHanded_of_change_and (C := Tryz.checked) (X := fun w _ => laidMetH Tryz.prog Rows.overlapFirstRow.laid w) (fun _ _ _ hh h => h.of_heap hh) kOwn started (by kernel_rfl) Tryz.func6
  (ChangeSpec.witness_shaped (enc := enc) (C := Tryz.checked) (os := os) (X := fun w _ => laidMetH Tryz.prog Rows.overlapFirstRow.laid w) false (laidWorld os) #[.slice none 0 0, .int .u8 0] 8 rfl (World.shaped_of_RefB (by kernel_rfl) (by kernel_rfl)) (by kernel_rfl) (by kernel_rfl) (by kernel_rfl) (door_met os _)) ?_
 intro W base args ds gs before hval0 hW _ _ hL _
 have hval : ∀ (j : Nat) t v, Tryz.f6.params[j]? = some t → args[j]? = some v → Value.okWide Tryz.prog W .any base t v := hval0
 have hW' := hW
 obtain ⟨p, q, hA0, hV, rfl, _, _⟩ := hW
 have hA : DataW.TrodAll enc Tryz.prog W 0 (fun _ => true) true Tryz.f6.params.toList args.toList ds p := hA0
 rw [Tryz.params6] at hA hval
 obtain ⟨v0, vs0, d0, ds0, p0, q0, hargs, rfl, rfl, h0, r0⟩ := trodAll_cons hA
 obtain ⟨v1, vs1, d1, ds1, p1, q1, rfl, rfl, rfl, h1, r1⟩ := trodAll_cons r0
 obtain ⟨rfl, rfl, rfl⟩ := trodAll_nil r1
 obtain rfl : args = #[v0, v1] := by cases args; simp_all
 obtain ⟨rfl, rfl⟩ := trodVars_none hV
 have h0k := h0
 obtain ⟨fuel0, hf0⟩ := h0
 obtain ⟨z1, rfl, rfl, rfl, w1⟩ := open_int Tryz.underlying5 (hval 1 5 v1 rfl rfl) h1
 have bd1 := bounds_u8 w1
 obtain ⟨N1, rfl⟩ : ∃ m : Nat, z1 = (m : Int) := ⟨z1.toNat, by omega⟩
 have N1b : N1 < 256 := by omega
 clear hA0 hval0
 simp only [List.append_nil] at hW'
 have hlt0 : ∀ x ∈ p0, x.block < W.heap.size := fun x hx => by
  have := hW'.lt x (by first | exact hx | simpa using hx | simp [hx])
  simpa using this
 have TABS : Tabs W := by
  have hm : laidMetH Tryz.prog Rows.overlapFirstRow.laid W := hL
  rw [MakeChecks.laidMetH_plain _ _ _ (by kernel_rfl)] at hm
  exact tabs_of hm (by simp [Rows.overlapFirstRow]) (by simp [Rows.overlapFirstRow])
 have ONE : Fr.OneAt W := by
  have hm : laidMetH Tryz.prog Rows.overlapFirstRow.laid W := hL
  rw [MakeChecks.laidMetH_plain _ _ _ (by kernel_rfl)] at hm
  exact one_of hm (by simp [Rows.overlapFirstRow])
 obtain ⟨A0, L0, C0, rfl⟩ := okWide_slice Tryz.underlying22 (hval 0 22 v0 rfl rfl)
 have R0 : RdU W W.heap.size A0 L0 C0 := by
  rcases open_ints Tryz.underlying22 Tryz.underlying5 kCells hf0 with ⟨hcs, hx⟩ | ⟨a, len', cap', zs, hcs, _, hl, hm, hz, hx, hcell, hwz⟩
  ·simp [Value.cells] at hcs
   obtain ⟨rfl, rfl, rfl⟩ := hcs
   exact ⟨Nat.le_refl _, by simp [maxLen], fun h => absurd h (by omega)⟩
  ·simp [Value.cells] at hcs
   obtain ⟨rfl, rfl, rfl⟩ := hcs
   exact rdU_of hl hm (by simpa using hz) hcell hwz
 refine (law19_firstS A0 L0 C0 N1 N1b W R0 TABS ONE).mono fun e W' ⟨he, hg⟩ => ?_
 subst he
 have hback0 : DataW.Trod enc Tryz.prog W' 0 (fun b => decide (b < W.heap.size)) true 22 (.slice A0 L0 C0) d0 p0 :=
  Below.trod kLaid (by kernel_rfl) (of_decide_eq_true (by kernel_rfl)) h0k hg hlt0
 exact ⟨_, rfl, _, _, _, [], _, [], hW', (trodAll_cons_mk (shut_bool Tryz.underlying4 _) trodAll_mk0), (trodAll_cons_mk hback0 (trodAll_cons_mk (shut_int Tryz.underlying5 w1) trodAll_mk0)), rfl, hg.frame _, fun h => by cases h⟩
theorem jf1 : (Rows.overlapFirstRow.inPlace == Tryz.pinned.checked.prog.inPlace 6) = true := by kernel_rfl
theorem jf2 : (Rows.overlapFirstRow.unfollowed == Tryz.pinned.checked.prog.unfollowed 6) = true := by kernel_rfl
theorem jf3 : (Rows.overlapFirstRow.recurses == Tryz.pinned.checked.prog.recurses 6) = true := by kernel_rfl
theorem jf4 : (Rows.overlapFirstRow.named == Tryz.pinned.checked.prog.varsNamed 6) = true := by kernel_rfl
theorem jfc : joinedFacts Tryz.pinned.checked.prog 6 Tryz.f6 Rows.overlapFirstSpec Rows.overlapFirstRow = true := by
  unfold joinedFacts
  rw [jf1, jf2, jf3, jf4]
  kernel_rfl
theorem jfw : Tryz.f6.isWrapper Tryz.pinned.checked.prog Rows.overlapFirstRow.wrapper Rows.overlapFirstRow.mainSum := by unfold Func.isWrapper; first | (rw [if_pos (by decide +kernel)]; kernel_rfl) | (rw [if_neg (by decide +kernel)]; exact ⟨rfl, rfl⟩)
theorem said : Rows.OverlapFirstSaid :=
  OpenClaim.holds_of_wide 6 Tryz.f6 rfl rfl rfl rfl rfl rfl rfl ⟨rfl, rfl, rfl, rfl, rfl⟩ rfl rfl rfl rfl rfl (by kernel_rfl) Tryz.func6 jfc
    (of_decide_eq_true (by kernel_rfl)) jfw
    (fun os started H enc _ => lifted os started H enc)
theorem proved : Rows.OverlapFirstCardSaid :=
  Claim7.holds_tied_plain_at .later [] Rows.overlapFirstCard.laidKinds true (true, Rows.overlapFirstCard.stood.harness.2) false
    said (fun _ h => by cases h) (by kernel_rfl) (fun _ h => by cases h) overlapFirst_row_tie rfl ⟨rfl, rfl⟩ (by kernel_rfl) rfl
    (fun f fn hf hfn => by
      obtain rfl : f = 6 := Option.some.inj ((show Tryz.prog.funcNamed "tablefinder/tablefinderlaw19.OverlapFirst" = some 6 by kernel_rfl).symm.trans hf) |>.symm
      obtain rfl : fn = Tryz.f6 := (Option.some.inj (Tryz.func6.symm.trans hfn)).symm
      exact ⟨by kernel_rfl, fun j t ht => by
        rw [Tryz.params6] at ht
        have h3 : t = 22 ∨ t = 5 := by
          rcases j with _ | _ | j
          · left; simpa using ht.symm
          · right; simpa using ht.symm
          · simp at ht
        rcases h3 with rfl | rfl
        · exact (show Tryz.prog.wantsStandIn 22 = false by kernel_rfl)
        · exact (show Tryz.prog.wantsStandIn 5 = false by kernel_rfl)⟩)
    (by kernel_rfl)
#print axioms proved
end Go.Proofs.YtikiimlmoalbcaaGreatDoor
