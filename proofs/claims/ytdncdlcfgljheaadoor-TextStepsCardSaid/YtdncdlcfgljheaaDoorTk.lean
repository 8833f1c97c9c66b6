/- The walk of TextSteps. -/
import Derived.Test.YtdncdlcfgljheaaDoorSp
import Derived.Test.YtdncdlcfgljheaaDoorSw
import Derived.Test.YtdncdlcfgljheaaDoorSv
import Derived.Test.YtdncdlcfgljheaaDoorTt
import Derived.Test.YtdncdlcfgljheaaDoorTj
namespace Go.Proofs.YtdncdlcfgljheaaDoor
open Go.RowKit

set_option maxRecDepth 100000 in
set_option maxHeartbeats 4000000 in
theorem law_textSteps (sa : Option Addr) (sn sc : Nat) (raw : ByteArray) (w : World) (hs : RdU w w.heap.size sa sn sc) (hT : Tabs w) :
    Calls Tryd.prog 5 #[.slice sa sn sc, .string raw] w (Ret w (.bool true)) := by
  have HS := hid hs
  have HT := hid hT
  clear hs hT
  go_enter Tryd.func5, Tryd.ntmps5
  generalize hLA : Code.loop _ = LA
  generalize hLB : Code.loop _ = LB
  go_wp2_with fail
  with_reducible refine (law02_sane _ HT.out).mono ?_
  rintro e w1 ⟨rfl, hb1⟩
  have HB1 := hid hb1
  have HS1 := hid (rdU_later' HS.out hb1)
  have HT1 := hid (HT.out.below hb1)
  have hz1' := hb1.size
  clear hb1
  by_cases hlen : 300 < raw.size
  · go_wp2_with fail
    go_ret
    exact ⟨rfl, HB1.out⟩
  · go_wp2_with fail
    with_reducible refine (mill_New sa sn sc _ HS1.out).mono ?_
    rintro e w2 ⟨rfl, hd2, hb2⟩
    have HD2 := hid hd2
    have hg2 := hd2.lt
    have HB2 := hid (HB1.out.trans (hb2.mono HB1.out.size))
    clear hd2 hb2 HS1
    generalize hgg : w1.heap.size = g at *
    clear hgg
    go_wp2_with fail
    with_reducible refine (dice_Pick g 6 _ HD2.out (by omega) (by omega)).mono ?_
    rintro e w3 ⟨m3, rfl, hm3, hd3, hr3, hs3⟩
    have HD3 := hid hd3
    have HR3 := hid hr3
    clear hd3 hr3 hs3 HD2
    go_wp2_with fail
    subst hLA
    go_loopg [6, 7] m3 (fun M tv kv wr => ∃ t : ByteArray, kv = .int .i64 (M : Int) ∧ tv = .string t ∧ M ≤ 6 ∧ t.size + 32 * M ≤ 192 ∧ Hid (DiceAt 55 wr g) ∧ Hid (Roll w2.heap.size g w2 wr))
    case atStart => exact ⟨⟨#[]⟩, rfl, rfl, by omega, by show 0 + 32 * m3 ≤ 192; omega, HD3, HR3⟩
    case round =>
      obtain ⟨t, rfl, rfl, hm6, htz, HD, HR⟩ := hrel
      obtain ⟨wo, rfl⟩ : ∃ wo, wo = wr := ⟨wr, rfl⟩
      by_cases hp : 0 < gk
      · go_wp2_with fail
        with_reducible refine (dice_Pick g 9 _ HD.out (by omega) (by omega)).mono ?_
        rintro e w4 ⟨m4, rfl, hm4, hd4, hr4, hs4⟩
        have HD4 := hid hd4
        have HR4 := hid (HR.out.trans (hr4.mono HR.out.size))
        clear hd4 hr4 hs4
        go_wp2_with fail
        with_reducible refine (dice_Field g m4 (by omega) _ HD4.out).mono ?_
        rintro e w5 ⟨x, rfl, hx30, -, hd5, hr5⟩
        have HD5 := hid hd5
        have HR5 := hid (HR4.out.trans (hr5.mono HR4.out.size))
        clear hd5 hr5 HR4 HD4
        have hz5 := HR5.out.size
        have hgl := HD5.out.lt
        go_wp2_with fail
        have hd5' := HD5.out.alloc (.cells #[.string ⟨#[]⟩, .string ⟨#[32]⟩, .string ⟨#[10]⟩, .string ⟨#[13, 10]⟩, .string ⟨#[13]⟩] 9)
        with_reducible refine (dice_Pick g 5 _ hd5' (by omega) (by omega)).mono ?_
        rintro e w6 ⟨m6, rfl, hm6', hd6, hr6, hs6⟩
        have HD6 := hid hd6
        have HR6 := hid ((HR5.out.alloc hz5 (.cells #[.string ⟨#[]⟩, .string ⟨#[32]⟩, .string ⟨#[10]⟩, .string ⟨#[13, 10]⟩, .string ⟨#[13]⟩] 9)).trans (hr6.mono (by simp; omega)))
        obtain ⟨z, hz, hc⟩ : ∃ z : ByteArray, z.size ≤ 2 ∧ w6.cell? ⟨w5.heap.size, m6, none⟩ = some (.string z) := by
          have key := hr6.cell (p := ⟨w5.heap.size, m6, none⟩) (by simp) (by show w5.heap.size ≠ g; omega)
          rcases (show m6 = 0 ∨ m6 = 1 ∨ m6 = 2 ∨ m6 = 3 ∨ m6 = 4 by omega) with rfl | rfl | rfl | rfl | rfl
          · exact ⟨⟨#[]⟩, by decide, key.trans (by simp [World.cell?_alloc_new])⟩
          · exact ⟨⟨#[32]⟩, by decide, key.trans (by simp [World.cell?_alloc_new])⟩
          · exact ⟨⟨#[10]⟩, by decide, key.trans (by simp [World.cell?_alloc_new])⟩
          · exact ⟨⟨#[13, 10]⟩, by decide, key.trans (by simp [World.cell?_alloc_new])⟩
          · exact ⟨⟨#[13]⟩, by decide, key.trans (by simp [World.cell?_alloc_new])⟩
        have hxz : (x ++ z).size = x.size + z.size := ByteArray.size_append
        have htx : (t ++ (x ++ z)).size = t.size + (x.size + z.size) := by rw [ByteArray.size_append, hxz]
        clear hd5' hd6 hr6 hs6 HR5 HD5
        go_wp2
        go_roundg (gk - 1)
        case rel => exact ⟨t ++ (x ++ z), by go_num, rfl, by omega, by omega, HD6, HR6⟩
        case measure => omega
      · obtain rfl : gk = 0 := by omega
        have HBW : Hid (Below w.heap.size w wo) := hid (HB2.out.trans (HR.out.below (B' := w.heap.size) hz1' (by omega)))
        obtain ⟨z, hz, hcv⟩ := bytes_text (rdU_later' HS.out HBW.out)
        go_wp2_with fail
        have HLX : Hid (∀ k, k < 5 → ∃ x : ByteArray, (wo.alloc (.cells #[.string t, .string raw, .string (t ++ raw), .string z, .string (raw ++ ⟨#[10]⟩ ++ raw)] 9)).cell? ⟨wo.heap.size, k, none⟩ = some (.string x)) := hid (by
          intro k hk
          rcases (show k = 0 ∨ k = 1 ∨ k = 2 ∨ k = 3 ∨ k = 4 by omega) with rfl | rfl | rfl | rfl | rfl
          all_goals exact ⟨_, by simp [World.cell?_alloc_new]; rfl⟩)
        have HB7 : Hid (Below w.heap.size w (wo.alloc (.cells #[.string t, .string raw, .string (t ++ raw), .string z, .string (raw ++ ⟨#[10]⟩ ++ raw)] 9))) := hid (HBW.out.alloc (by have := HBW.out.size; omega) _)
        have hz7 : wo.heap.size < (wo.alloc (.cells #[.string t, .string raw, .string (t ++ raw), .string z, .string (raw ++ ⟨#[10]⟩ ++ raw)] 9)).heap.size := by simp
        have HT7 := hid (HT.out.below HB7.out)
        clear hcv HBW
        generalize wo.alloc (.cells #[.string t, .string raw, .string (t ++ raw), .string z, .string (raw ++ ⟨#[10]⟩ ++ raw)] 9) = w7 at *
        generalize wo.heap.size = lb at *
        subst hLB
        go_loopg [48] 5 (fun M i wr => ∃ k : Nat, 5 - k = M ∧ k ≤ 5 ∧ i = .int .i64 k ∧ Hid (Below w7.heap.size w7 wr))
        case atStart => exact ⟨0, by omega, by omega, rfl, hid (Below.refl _ _)⟩
        case round =>
          obtain ⟨k, rfl, hk, rfl, HBL⟩ := hrel
          obtain ⟨wp, rfl⟩ : ∃ wp, wp = wr := ⟨wr, rfl⟩
          have hbz := HBL.out.size
          by_cases hk5 : k < 5
          · obtain ⟨x, hc⟩ := HLX.out k hk5
            have c0 := (HBL.out.cell (p := ⟨lb, k, none⟩) hz7).trans hc
            clear hc
            by_cases hx7 : 700 < x.size
            · go_wp2
              go_roundg (5 - (k + 1))
              case rel => exact ⟨k + 1, by omega, by omega, by go_num, HBL⟩
              case measure => omega
            · have HTp := hid (HT7.out.below HBL.out)
              have HV1 := hid (fun W (h : Tabs W) => text_Valid x W (by omega) h)
              have HV2 := hid (fun W (h : Tabs W) => ref_Valid x W (by omega) h)
              generalize Lib.validD x.data.toList = vb at *
              have HP1 := hid (fun W => text_Points x W (by omega))
              have HP2 := hid (fun W => ref_Points x W (by omega))
              have HK1 := hid (fun W => text_Tokens x W (by omega))
              have HK2 := hid (fun W => ref_Tokens x W (by omega))
              generalize toksB (foldB x) = ts at *
              have HF1 := hid (fun W => text_Fold x W (by omega))
              have HF2 := hid (fun W => ref_Fold x W (by omega))
              generalize foldB x = fx at *
              have HR1 := hid (fun W => text_Trim x W (by omega))
              have HR2 := hid (fun W => ref_Trim x W (by omega))
              generalize trimS x = yx at *
              have HA1 := hid (fun W => text_Pattern x W (by omega))
              have HA2 := hid (fun W => ref_Pattern x W (by omega))
              generalize patB x = px at *
              have HN1 := hid (fun W => text_Lines x W (by omega))
              have HN2 := hid (fun W => ref_Lines x W (by omega))
              generalize linesB x = ls at *
              have HBc := hid (Below.refl wp.heap.size wp)
              go_wp2_with fail
              with_reducible refine (HV1.out _ HTp.out).mono ?_
              rintro e v1 ⟨rfl, hb1⟩
              have HBd := hid (HBc.out.trans (hb1.mono HBc.out.size))
              clear hb1 HBc
              have HBc := HBd
              clear HBd
              go_wp2_with fail
              with_reducible refine (HV2.out _ (HTp.out.below HBc.out)).mono ?_
              rintro e v2 ⟨rfl, hb2⟩
              have HBd := hid (HBc.out.trans (hb2.mono HBc.out.size))
              clear hb2 HBc
              have HBc := HBd
              clear HBd
              go_wp2_with fail
              with_reducible refine (HP1.out _).mono ?_
              rintro e v3 ⟨a3, d3, rfl, ho3, hb3⟩
              have HO3 := hid (ho3)
              have HB3 := hid (HBc.out.trans (hb3.mono HBc.out.size))
              clear ho3 hb3
              go_wp2_with fail
              with_reducible refine (HP2.out _).mono ?_
              rintro e v4 ⟨a4, d4, rfl, ho4, hb4⟩
              have HO4 := hid (ho4)
              have HQ3 := hid (show Rd v4 v4.heap.size _ _ _ from Rd.more (Rd.below HO3.out hb4 (Nat.le_refl _)) hb4.size)
              have HB4 := hid (HB3.out.trans (hb4.mono HB3.out.size))
              clear ho4 hb4
              go_wp2_with fail
              with_reducible refine (ref_Ints _ _ (pts x) v4.heap.size _ HQ3.out HO4.out).mono ?_
              rintro e v5 ⟨rfl, n5, rfl⟩
              have HBd : Hid (Below wp.heap.size wp (v4.drewN n5)) := hid (below_drewN HB4.out)
              clear HO3 HO4 HQ3 HB3 HB4
              generalize v4.drewN n5 = u3 at *
              clear HBc
              have HBc := HBd
              clear HBd
              go_wp2_with fail
              with_reducible refine (HF1.out _).mono ?_
              rintro e v10 ⟨rfl, hb10⟩
              have HBd := hid (HBc.out.trans (hb10.mono HBc.out.size))
              clear hb10 HBc
              have HBc := HBd
              clear HBd
              go_wp2_with fail
              with_reducible refine (HF2.out _).mono ?_
              rintro e v11 ⟨rfl, hb11⟩
              have HBd := hid (HBc.out.trans (hb11.mono HBc.out.size))
              clear hb11 HBc
              have HBc := HBd
              clear HBd
              go_wp2_with fail
              with_reducible refine (HR1.out _).mono ?_
              rintro e v12 ⟨rfl, n12, rfl⟩
              go_wp2_with fail
              with_reducible refine (HR2.out _).mono ?_
              rintro e v13 ⟨rfl, n13, rfl⟩
              have HBd : Hid (Below wp.heap.size wp (v11.drewN (n12 + n13))) := hid (below_drewN HBc.out)
              clear HBc
              have HBc := HBd
              clear HBd
              go_wp2_with fail
              with_reducible refine (HK1.out _).mono ?_
              rintro e v20 ⟨a20, d20, rfl, ho20, hb20⟩
              have HO20 := hid (rdS_of_own ho20)
              have HB20 := hid (HBc.out.trans (hb20.mono HBc.out.size))
              clear ho20 hb20
              go_wp2_with fail
              with_reducible refine (HK2.out _).mono ?_
              rintro e v21 ⟨a21, d21, rfl, ho21, hb21⟩
              have HO21 := hid (rdS_of_own ho21)
              have HQ20 := hid (show RdS v21 v21.heap.size _ _ from Rd.more (Rd.below HO20.out hb21 (Nat.le_refl _)) hb21.size)
              have HB21 := hid (HB20.out.trans (hb21.mono HB20.out.size))
              clear ho21 hb21
              go_wp2_with fail
              with_reducible refine (ref_Same _ _ ts ts v21.heap.size _ HQ20.out HO21.out).mono ?_
              rintro e v22 ⟨rfl, n22, rfl⟩
              rw [decide_eq_true (rfl : ts = ts)]
              have HBd : Hid (Below wp.heap.size wp (v21.drewN n22)) := hid (below_drewN HB21.out)
              clear HO20 HO21 HQ20 HB20 HB21
              generalize v21.drewN n22 = u20 at *
              clear HBc
              have HBc := HBd
              clear HBd
              go_wp2_with fail
              with_reducible refine (HA1.out _).mono ?_
              rintro e v30 ⟨rfl, hb30⟩
              have HBd := hid (HBc.out.trans (hb30.mono HBc.out.size))
              clear hb30 HBc
              have HBc := HBd
              clear HBd
              go_wp2_with fail
              with_reducible refine (HA2.out _).mono ?_
              rintro e v31 ⟨rfl, hb31⟩
              have HBd := hid (HBc.out.trans (hb31.mono HBc.out.size))
              clear hb31 HBc
              have HBc := HBd
              clear HBd
              go_wp2_with fail
              with_reducible refine (HN1.out _).mono ?_
              rintro e v40 ⟨a40, d40, rfl, ho40, hb40⟩
              have HO40 := hid (rdS_of_own ho40)
              have HB40 := hid (HBc.out.trans (hb40.mono HBc.out.size))
              clear ho40 hb40
              go_wp2_with fail
              with_reducible refine (HN2.out _).mono ?_
              rintro e v41 ⟨a41, d41, rfl, ho41, hb41⟩
              have HO41 := hid (rdS_of_own ho41)
              have HQ40 := hid (show RdS v41 v41.heap.size _ _ from Rd.more (Rd.below HO40.out hb41 (Nat.le_refl _)) hb41.size)
              have HB41 := hid (HB40.out.trans (hb41.mono HB40.out.size))
              clear ho41 hb41
              go_wp2_with fail
              with_reducible refine (ref_Same _ _ ls ls v41.heap.size _ HQ40.out HO41.out).mono ?_
              rintro e v42 ⟨rfl, n42, rfl⟩
              rw [decide_eq_true (rfl : ls = ls)]
              have HBd : Hid (Below wp.heap.size wp (v41.drewN n42)) := hid (below_drewN HB41.out)
              clear HO40 HO41 HQ40 HB40 HB41
              generalize v41.drewN n42 = u40 at *
              go_wp2_with fail
              go_roundg (5 - (k + 1))
              case rel => exact ⟨k + 1, by omega, by omega, by go_num, hid (HBL.out.trans (HBd.out.mono hbz))⟩
              case measure => omega
          · obtain rfl : k = 5 := by omega
            go_wp2_with fail
            go_ret
            exact ⟨rfl, HB7.out.trans (HBL.out.mono (by have := HB7.out.size; omega))⟩

end Go.Proofs.YtdncdlcfgljheaaDoor
