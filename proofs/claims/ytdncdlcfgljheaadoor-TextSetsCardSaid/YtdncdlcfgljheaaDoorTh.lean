/- The walk of TextSets. -/
import Derived.Test.YtdncdlcfgljheaaDoorTx
import Derived.Test.YtdncdlcfgljheaaDoorSn
import Derived.Test.YtdncdlcfgljheaaDoorSm
import Derived.Test.YtdncdlcfgljheaaDoorCm
import Derived.Test.YtdncdlcfgljheaaDoorGx
namespace Go.Proofs.YtdncdlcfgljheaaDoor
open Go.RowKit

theorem setOfL_twice (xs : List ByteArray) : setOfL (setOfL xs) = setOfL xs := asc_unique (setOfL_asc _) (setOfL_asc _) (fun x => setOfL_mem_iff _ _)
theorem setOfL_is (xs : List ByteArray) : isSet (setOfL xs) = true := (setOfL_asc xs).isSet

theorem rdS_drewN {w : World} {B : Nat} {v : Value} {xs : List ByteArray} (h : RdS w B v xs) (k : Nat) : RdS (w.drewN k) B v xs := h
theorem rdU_later {w w1 : World} {sa : Option Addr} {sn sc : Nat} (h : RdU w w.heap.size sa sn sc) (hb : Below w.heap.size w w1) : RdU w1 w1.heap.size sa sn sc :=
  ⟨h.1, h.2.1, fun hp => by
    obtain ⟨b, o, e, hb1, hc⟩ := h.2.2 hp
    exact ⟨b, o, e, Nat.lt_of_lt_of_le hb1 hb.size, fun i hi => by
      obtain ⟨y, hy, hcy⟩ := hc i hi
      exact ⟨y, hy, (hb.cell (p := ⟨b, o + i, none⟩) hb1).trans hcy⟩⟩⟩

set_option maxRecDepth 100000 in
set_option maxHeartbeats 4000000 in
theorem law_textSets (sa : Option Addr) (sn sc : Nat) (rv : Value) (raws : List ByteArray) (w : World) (hs : RdU w w.heap.size sa sn sc) (hr : RdS w w.heap.size rv raws) (hT : Tabs w) :
    Calls Tryd.prog 6 #[.slice sa sn sc, rv] w (Ret w (.bool true)) := by
  have HS := hid hs
  have HR := hid hr
  have HT := hid hT
  obtain ⟨ra, rc, rfl, -⟩ := hr
  clear hs hT
  go_enter Tryd.func6, Tryd.ntmps6
  go_wp2_with fail
  with_reducible refine (law02_sane _ HT.out).mono ?_
  rintro e w1 ⟨rfl, hb1⟩
  have HB1 := hid hb1
  have HS1 := hid (rdU_later HS.out hb1)
  have hz1 := hb1.size
  clear hb1
  by_cases hlen : 30 < raws.length
  · go_wp2_with fail
    go_ret
    exact ⟨rfl, HB1.out⟩
  · go_wp2_with fail
    with_reducible refine (mill_New sa sn sc _ HS1.out).mono ?_
    rintro e w2 ⟨rfl, hd2, hb2⟩
    have HD2 := hid hd2
    have hg2 := hd2.lt
    have HB2 := hid (HB1.out.trans (hb2.mono HB1.out.size))
    clear hd2 hb2 HS1
    generalize hgg : w1.heap.size = g at *
    clear hgg
    go_wp2_with fail
    with_reducible refine (dice_Texts g 12 _ HD2.out (by omega) (by omega)).mono ?_
    rintro e w3 ⟨xa, xc, xs, rfl, hx3, hxl, hxm, hd3, hr3⟩
    have HX3 := hid hx3
    have HD3 := hid hd3
    have HR3 := hid hr3
    have hz3 := hr3.size
    clear hx3 hd3 hr3 hxm
    go_wp2_with fail
    with_reducible refine (dice_Query g 8 _ HD3.out (by omega) (by omega)).mono ?_
    rintro e w4 ⟨qa, qc, qs, rfl, hq4, hql, hqm, hqs, hd4, hr4⟩
    have HX4 := hid (own_roll HX3.out hr4 (Nat.le_refl _) hg2)
    have HQ4 := hid hq4
    have HB4 : Hid (Below w.heap.size w w4) := hid (HB2.out.trans ((HR3.out.trans (hr4.mono hz3)).below (B' := w.heap.size) hz1 (by omega)))
    have hz4 := hr4.size
    clear hq4 hqm hqs hd4 hr4 HX3 HD3 HR3 HB2 HD2
    have HL : Hid (∀ k, k < 3 → ∃ a c, ∃ l : List ByteArray, (w4.alloc (.cells #[.slice ra raws.length rc, .slice xa xs.length xc, .slice qa qs.length qc] 28)).cell? ⟨w4.heap.size, k, none⟩ = some (.slice a l.length c) ∧ RdS (w4.alloc (.cells #[.slice ra raws.length rc, .slice xa xs.length xc, .slice qa qs.length qc] 28)) (w4.alloc (.cells #[.slice ra raws.length rc, .slice xa xs.length xc, .slice qa qs.length qc] 28)).heap.size (.slice a l.length c) l ∧ l.length ≤ 1000) := hid (by
      have hbb : Below w4.heap.size w4 (w4.alloc (.cells #[.slice ra raws.length rc, .slice xa xs.length xc, .slice qa qs.length qc] 28)) := (Below.refl _ _).alloc (Nat.le_refl _) _
      intro k hk
      rcases (show k = 0 ∨ k = 1 ∨ k = 2 by omega) with rfl | rfl | rfl
      · exact ⟨ra, rc, raws, by simp [World.cell?_alloc_new], Rd.more (Rd.below (Rd.below HR.out HB4.out (Nat.le_refl _)) hbb (by have := HB4.out.size; omega)) (by have := HB4.out.size; simp; omega), by omega⟩
      · exact ⟨xa, xc, xs, by simp [World.cell?_alloc_new], Rd.more (Rd.below (rdS_of_own HX4.out) hbb (Nat.le_refl _)) (by simp), by omega⟩
      · exact ⟨qa, qc, qs, by simp [World.cell?_alloc_new], Rd.more (Rd.below (rdS_of_own HQ4.out) hbb (Nat.le_refl _)) (by simp), by omega⟩)
    have HB5 : Hid (Below w.heap.size w (w4.alloc (.cells #[.slice ra raws.length rc, .slice xa xs.length xc, .slice qa qs.length qc] 28))) := hid (HB4.out.alloc (by have := HB4.out.size; omega) _)
    have hz5 : w4.heap.size < (w4.alloc (.cells #[.slice ra raws.length rc, .slice xa xs.length xc, .slice qa qs.length qc] 28)).heap.size := by simp
    clear HX4 HQ4 HB4
    go_wp2_with fail
    generalize w4.alloc (.cells #[.slice ra raws.length rc, .slice xa xs.length xc, .slice qa qs.length qc] 28) = w5 at *
    generalize w4.heap.size = lb at *
    go_loopg [23] 3 (fun M i wr => ∃ k : Nat, 3 - k = M ∧ k ≤ 3 ∧ i = .int .i64 k ∧ Below w5.heap.size w5 wr)
    case atStart => exact ⟨0, by omega, by omega, rfl, Below.refl _ _⟩
    case round =>
      obtain ⟨k, rfl, hk, rfl, hbl⟩ := hrel
      have HBL := hid hbl
      have hbz := hbl.size
      by_cases hk3 : k < 3
      · obtain ⟨a, c, l, hc, hrd, hll⟩ := HL.out k hk3
        have c0 := (hbl.cell (p := ⟨lb, k, none⟩) hz5).trans hc
        have HRD := hid (show RdS wr wr.heap.size (.slice a l.length c) l from Rd.more (Rd.below hrd hbl (Nat.le_refl _)) hbz)
        have HS1 := hid (fun W (h : Below wr.heap.size wr W) => text_Set (.slice a l.length c) l wr.heap.size W (Rd.below HRD.out h (Nat.le_refl _)) h.size (by omega))
        have HS2 := hid (fun W (h : Below wr.heap.size wr W) => ref_Set (.slice a l.length c) l wr.heap.size W (Rd.below HRD.out h (Nat.le_refl _)) h.size (by omega))
        have HI1 := hid (fun W (h : Below wr.heap.size wr W) => text_IsSet (.slice a l.length c) l wr.heap.size W (Rd.below HRD.out h (Nat.le_refl _)))
        have HI2 := hid (fun W (h : Below wr.heap.size wr W) => ref_IsSet (.slice a l.length c) l wr.heap.size W (Rd.below HRD.out h (Nat.le_refl _)))
        have HX := hid (setOfL_twice l)
        have HY := hid (setOfL_is l)
        have hsl := setOfL_len l
        clear hc hrd hbl
        generalize isSet l = b at *
        generalize setOfL l = t at *
        generalize l.length = n at *
        go_wp2_with fail
        with_reducible refine (HS1.out _ (Below.refl _ _)).mono ?_
        rintro e w6 ⟨a6, c6, rfl, ho6, hb6⟩
        have HO6 := hid ho6
        have HB6 := hid hb6
        have HT6 := hid (rdS_of_own ho6)
        have hz6 := hb6.size
        clear ho6 hb6 c0
        go_wp2_with fail
        with_reducible refine (HS2.out _ HB6.out).mono ?_
        rintro e w7 ⟨a7, c7, rfl, ho7, hb7⟩
        have HT7 := hid (rdS_of_own ho7)
        have HB7 := hid (HB6.out.trans (hb7.mono hz6))
        have HT67 := hid (show RdS w7 w7.heap.size _ t from Rd.more (Rd.below HT6.out hb7 (Nat.le_refl _)) hb7.size)
        have hz7 := hb7.size
        clear ho7 hb7
        go_wp2_with fail
        with_reducible refine (ref_Same _ _ t t w7.heap.size _ HT67.out HT7.out).mono ?_
        rintro e w8 ⟨rfl, n8, rfl⟩
        rw [decide_eq_true (rfl : t = t)]
        go_wp2_with fail
        with_reducible refine (HI1.out _ (by exact below_drewN HB7.out)).mono ?_
        rintro e w9 ⟨rfl, n9, rfl⟩
        go_wp2_with fail
        with_reducible refine (HI2.out _ (by exact below_drewN HB7.out)).mono ?_
        rintro e w10 ⟨rfl, n10, rfl⟩
        go_wp2_with fail
        with_reducible refine (text_IsSet _ t w7.heap.size _ (by exact rdS_drewN HT67.out _)).mono ?_
        rintro e w11 ⟨rfl, n11, rfl⟩
        rw [HY.out]
        go_wp2_with fail
        with_reducible refine (text_Set _ t w7.heap.size _ (by exact rdS_drewN HT67.out _) (by simp) (by omega)).mono ?_
        rintro e w12 ⟨a12, c12, rfl, ho12, hb12⟩
        rw [HX.out] at ho12
        rw [HX.out]
        have HT12 := hid (rdS_of_own ho12)
        have HB12 : Hid (Below wr.heap.size wr w12) := hid (HB7.out.trans (show Below wr.heap.size w7 w12 from ⟨hb12.os, hb12.tape, hb12.output, hb12.size, fun i hi => hb12.block i (Nat.lt_of_lt_of_le hi (by show _ ≤ w7.heap.size; omega))⟩))
        have HT712 : Hid (RdS w12 w12.heap.size _ t) := hid (Rd.more (Rd.below HT67.out (show Below w7.heap.size w7 w12 from ⟨hb12.os, hb12.tape, hb12.output, hb12.size, hb12.block⟩) (Nat.le_refl _)) hb12.size)
        clear ho12 hb12
        go_wp2_with fail
        with_reducible refine (ref_Same _ _ t t w12.heap.size _ HT12.out HT712.out).mono ?_
        rintro e w13 ⟨rfl, n13, rfl⟩
        rw [decide_eq_true (rfl : t = t)]
        go_wp2_with fail
        go_roundg (3 - (k + 1))
        case rel => exact ⟨k + 1, by omega, by omega, by go_num, below_drewN (HBL.out.trans (HB12.out.mono hbz))⟩
        case measure => omega
      · obtain rfl : k = 3 := by omega
        go_wp2_with fail
        go_ret
        exact ⟨rfl, HB5.out.trans (HBL.out.mono (by have := HB5.out.size; omega))⟩

end Go.Proofs.YtdncdlcfgljheaaDoor
