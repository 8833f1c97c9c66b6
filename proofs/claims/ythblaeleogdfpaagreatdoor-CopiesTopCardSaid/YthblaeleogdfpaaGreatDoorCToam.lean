/- Contracts of fraction.Of (small numbers), containment.Valid and containment.Score. Contracts of the reference's sum and difference of words. Contract of the reference's product of words. Contracts of the reference's doubling and halving of words. -/
import Derived.Test.YthblaeleogdfpaaGreatDoorCToal
import Derived.Test.YthblaeleogdfpaaGreatDoorCToaj
set_option linter.unusedVariables false
set_option linter.unusedSimpArgs false
namespace Go.Proofs.YthblaeleogdfpaaGreatDoor.Fr
open Go.RowKit
set_option maxRecDepth 100000 in
set_option maxHeartbeats 2000000 in
theorem frac_Of1 (n d : Nat) (w : World) (hn : n < 9223372036854775808) (hd : 0 < d) (hd2 : d < 4294967296) :
  Calls Tryz.prog 107 #[.int .i64 (n : Int), .int .i64 (d : Int)] w (GivesFE w false (n / Nat.gcd n d) (d / Nat.gcd n d) (.int .i64 0)) := by
 have hl2 := dig_length_64 (n := n) (by omega)
 have hok : okBig false (dig n) = true := okBig_false n (by omega)
 have HM := hid (fun W a a' c c' hx hy => frac_Make1 false a a' c c' n d W hx hy hok (Nat.le_trans hl2 (by omega)) hd hd2)
 clear hok hl2
 generalize n / Nat.gcd n d = p at *
 generalize d / Nat.gcd n d = q at *
 go_enter Tryz.func107, Tryz.ntmps107
 go_wp2_with fail
 refine (frac_FromInt n _ hn).mono ?_
 rintro e w1 ⟨a1, c1, rfl, hr1, ho1, hb1⟩
 have HR1 := hid hr1
 have HB1 := hid hb1
 have hz1 := hb1.size
 have k0 := cell_later hb1 (a := ⟨w.heap.size, 0, none⟩) (v := .bool false) (by go_cell)
 have k1 := cell_later hb1 (a := ⟨w.heap.size, 1, none⟩) (v := .slice none 0 0) (by go_cell)
 have k2 := cell_later hb1 (a := ⟨w.heap.size, 2, none⟩) (v := .bool false) (by go_cell)
 have k3 := cell_later hb1 (a := ⟨w.heap.size, 3, none⟩) (v := .slice none 0 0) (by go_cell)
 have fk0 := frozen_later hb1 (a := ⟨w.heap.size, 0, none⟩) (v := .bool false) (by go_cell) (by simp [go_sem])
 have fk1 := frozen_later hb1 (a := ⟨w.heap.size, 1, none⟩) (v := .slice none 0 0) (by go_cell) (by simp [go_sem])
 have fk2 := frozen_later hb1 (a := ⟨w.heap.size, 2, none⟩) (v := .bool false) (by go_cell) (by simp [go_sem])
 have fk3 := frozen_later hb1 (a := ⟨w.heap.size, 3, none⟩) (v := .slice none 0 0) (by go_cell) (by simp [go_sem])
 have hA1 : Below w.heap.size w w1 := by repeat' (first | (with_reducible exact Below.refl _ _) | (with_reducible assumption) | (with_reducible refine below_drewN ?_) | (with_reducible refine Below.alloc ?_ ?_ _) | (with_reducible refine Below.drew ?_) | (with_reducible refine Below.setCell ?_ ?_ _) | (with_reducible refine Below.trans ?_ (Below.mono (by with_reducible assumption) ?_)) | go_size)
 have HA1 := hid hA1
 clear hb1 hA1 hr1 ho1
 simp at hz1
 go_wp2_with fail
 refine (frac_FromInt d _ (by omega)).mono ?_
 rintro e w2 ⟨a2, c2, rfl, hr1, ho1, hb2⟩
 have HR2 := hid hr1
 have HB2 := hid hb2
 have hz2 := hb2.size
 have j0 := cell_later hb2 k0
 have j1 := cell_later hb2 k1
 have j2 := cell_later hb2 k2
 have j3 := cell_later hb2 k3
 have fj0 := frozen_later hb2 k0 fk0
 have fj1 := frozen_later hb2 k1 fk1
 have fj2 := frozen_later hb2 k2 fk2
 have fj3 := frozen_later hb2 k3 fk3
 clear hr1 ho1 hb2
 go_wp2_with fail
 refine (HM.out _ _ _ _ _ (HR1.out.kept HB2.out) HR2.out).mono ?_
 rintro e w3 ⟨a3, c3, a4, c4, rfl, hN, hb3⟩
 have HN := hid hN
 have HB3 := hid hb3
 have hz3 := hb3.size
 have m0 := cell_later hb3 j0
 have m1 := cell_later hb3 j1
 have m2 := cell_later hb3 j2
 have m3 := cell_later hb3 j3
 have fm0 := frozen_later hb3 j0 fj0
 have fm1 := frozen_later hb3 j1 fj1
 have fm2 := frozen_later hb3 j2 fj2
 have fm3 := frozen_later hb3 j3 fj3
 clear hN hb3
 go_wp2
 refine bodyPost_ret (by simp [results, Tryz.results107, go_sem, m0, m1, m2, m3]; rfl) rfl ?_
 exact ⟨a3, c3, a4, c4, by first | rfl | simp, ((((HN.out.setCell (by simp; omega)).setCell (by simp; omega)).setCell (by simp; omega)).setCell (by simp; omega)).mono (by omega), by have h1 := HA1.out; have h2 := HB2.out; have h3 := HB3.out; repeat' (first | (with_reducible exact Below.refl _ _) | (with_reducible assumption) | (with_reducible refine below_drewN ?_) | (with_reducible refine Below.alloc ?_ ?_ _) | (with_reducible refine Below.drew ?_) | (with_reducible refine Below.setCell ?_ ?_ _) | (with_reducible refine Below.trans ?_ (Below.mono (by with_reducible assumption) ?_)) | go_size)⟩
end Go.Proofs.YthblaeleogdfpaaGreatDoor.Fr

namespace Go.Proofs.YthblaeleogdfpaaGreatDoor.Fr
open Go.RowKit
def AddRel (w : World) (xs ys : List Nat) (o cv i : Value) (wr : World) (k c : Nat) : Prop :=
  ∃ zs : List Nat, zs.length = k ∧ Digs zs ∧ val zs + 4294967296 ^ k * c = vt xs k + vt ys k ∧ wr.ownsRow w.heap.size 157 1 o k (zs.map U32) ∧ Below w.heap.size w wr
set_option maxHeartbeats 1000000 in
theorem ref_add (u v : Value) (xs ys : List Nat) (w : World) (hx : Rd32 w u xs) (hy : Rd32 w v ys) (hlx : xs.length ≤ 1073741824) (hly : ys.length ≤ 1073741824) :
  Calls Tryz.prog 247 #[u, v] w (GivesL w (val xs + val ys)) := by
 obtain ⟨a, c, rfl, hc, hm, hxr, hxc⟩ := hx
 obtain ⟨a', c', rfl, hc', hm', hyr, hyc⟩ := hy
 unfold maxLen at hm hm'
 obtain ⟨i0, hi, hz0, hz1, hz2⟩ := info_parts info_u32
 obtain ⟨n, hn⟩ : ∃ n, n = xs.length := ⟨_, rfl⟩
 obtain ⟨n', hn'⟩ : ∃ n, n = ys.length := ⟨_, rfl⟩
 rw [← hn] at hc hxc hlx ⊢
 rw [← hn'] at hc' hyc hly ⊢
 have HN := hid hn
 have HN' := hid hn'
 have HX := hid hxr
 have HY := hid hyr
 have HXC := hid hxc
 have HYC := hid hyc
 clear hn hn' hxr hyr hxc hyc
 go_enter Tryz.func247, Tryz.ntmps247
 go_wp2
 go_loopw [5, 6, 7] (fun o cv i wr => ∃ k c : Nat, (k ≤ n ∨ k ≤ n') ∧ i = .int .i64 k ∧ cv = .int .u64 c ∧ c ≤ 1 ∧ AddRel w xs ys o cv i wr k c) (fun _ _ i _ => n + n' - (intOf i).toNat)
 case atStart => exact ⟨0, 0, by omega, rfl, rfl, by omega, [], rfl, Digs.nil, rfl, World.ownsRow_nil _ _ _ _, Below.refl _ _⟩
 case round =>
  obtain ⟨k, cy, hk, rfl, rfl, hcy, zs, hzl, hzd, hv, hown, hbl⟩ := hrel
  have HV := hid hv
  have HL := hid hzl
  have HD := hid hzd
  have hxk := HX.out k
  have hyk := HY.out k
  have HB := hid hbl
  have hbs := hbl.size
  clear hv hzl hzd hbl
  by_cases h1 : k < n
  ·obtain ⟨b, o, rfl, hb, hcell⟩ := HXC.out (by omega)
   have hcx := (HB.out.cell (p := ⟨b, o + k, none⟩) hb).trans (hcell k h1)
   clear hcell
   have hst := hid (add_step (xs := xs) (ys := ys) HL.out HV.out)
   by_cases h2 : k < n'
   ·obtain ⟨b', o', rfl, hb', hcell⟩ := HYC.out (by omega)
    have hcy' := (HB.out.cell (p := ⟨b', o' + k, none⟩) hb').trans (hcell k h2)
    clear hcell
    generalize xs.getD k 0 = x at *
    generalize ys.getD k 0 = y at *
    go_wp2_with (at_builtin; refine wpList_append_own _ rfl _ _ 45 rfl (w.heap.size) 157 i0 (.int .u32 0) 1 4 Tryz.underlying45 hi hz0 hz1 hz2 rfl (by decide) _ _ _ rfl (hown.alloc _) ⟨_, 0, none⟩ 1 1 [(.int .u32 (((cy : Int) + x + y) % 4294967296))] rfl rfl (cell_one_new _ _ _) (by intro u hu; simp at hu; subst hu; rfl) (by unfold maxLen; omega) (by omega) (by simp; omega) ?_)
    intro v' w1 hown' hgrow _
    have hbl' := hid (push_below HB.out (by omega) hown hgrow)
    clear hown hgrow hcx hcy'
    rw [show ((cy : Int) + x + y) % 4294967296 = ((cy + x + y) % 4294967296 : Nat) from by omega, map_snoc] at hown'
    go_wp2
    go_roundw
    case rel => exact ⟨k + 1, (cy + x + y) / 4294967296, by omega, by go_num, by go_num, by omega, zs ++ [(cy + x + y) % 4294967296], by simp [HL.out], HD.out.append (Digs.cons (by omega) Digs.nil), hst.out, hown', hbl'.out⟩
    case measure => simp [intOf]; omega
   ·have h0 : ys.getD k 0 = 0 := getD_beyond (by have := HN'.out; omega)
    have hst2 := hst.out
    rw [h0, Nat.add_zero] at hst2
    clear hst h0 hyk
    have hst := hid hst2
    clear hst2
    generalize xs.getD k 0 = x at *
    go_wp2_with (at_builtin; refine wpList_append_own _ rfl _ _ 45 rfl (w.heap.size) 157 i0 (.int .u32 0) 1 4 Tryz.underlying45 hi hz0 hz1 hz2 rfl (by decide) _ _ _ rfl (hown.alloc _) ⟨_, 0, none⟩ 1 1 [(.int .u32 (((cy : Int) + x) % 4294967296))] rfl rfl (cell_one_new _ _ _) (by intro u hu; simp at hu; subst hu; rfl) (by unfold maxLen; omega) (by omega) (by simp; omega) ?_)
    intro v' w1 hown' hgrow _
    have hbl' := hid (push_below HB.out (by omega) hown hgrow)
    clear hown hgrow hcx
    rw [show ((cy : Int) + x) % 4294967296 = ((cy + x) % 4294967296 : Nat) from by omega, map_snoc] at hown'
    go_wp2
    go_roundw
    case rel => exact ⟨k + 1, (cy + x) / 4294967296, by omega, by go_num, by go_num, by omega, zs ++ [(cy + x) % 4294967296], by simp [HL.out], HD.out.append (Digs.cons (by omega) Digs.nil), hst.out, hown', hbl'.out⟩
    case measure => simp [intOf]; omega
  ·by_cases h2 : k < n'
   ·obtain ⟨b, o, rfl, hb, hcell⟩ := HYC.out (by omega)
    have hcx := (HB.out.cell (p := ⟨b, o + k, none⟩) hb).trans (hcell k h2)
    clear hcell
    have h0 : xs.getD k 0 = 0 := getD_beyond (by have := HN.out; omega)
    have hst2 := add_step (xs := xs) (ys := ys) HL.out HV.out
    rw [h0, Nat.add_zero] at hst2
    clear h0 hxk
    have hst := hid hst2
    clear hst2
    generalize ys.getD k 0 = x at *
    go_wp2_with (at_builtin; refine wpList_append_own _ rfl _ _ 45 rfl (w.heap.size) 157 i0 (.int .u32 0) 1 4 Tryz.underlying45 hi hz0 hz1 hz2 rfl (by decide) _ _ _ rfl (hown.alloc _) ⟨_, 0, none⟩ 1 1 [(.int .u32 (((cy : Int) + x) % 4294967296))] rfl rfl (cell_one_new _ _ _) (by intro u hu; simp at hu; subst hu; rfl) (by unfold maxLen; omega) (by omega) (by simp; omega) ?_)
    intro v' w1 hown' hgrow _
    have hbl' := hid (push_below HB.out (by omega) hown hgrow)
    clear hown hgrow hcx
    rw [show ((cy : Int) + x) % 4294967296 = ((cy + x) % 4294967296 : Nat) from by omega, map_snoc] at hown'
    go_wp2
    go_roundw
    case rel => exact ⟨k + 1, (cy + x) / 4294967296, by omega, by go_num, by go_num, by omega, zs ++ [(cy + x) % 4294967296], by simp [HL.out], HD.out.append (Digs.cons (by omega) Digs.nil), hst.out, hown', hbl'.out⟩
    case measure => simp [intOf]; omega
   ·go_wp2_with (at_builtin; refine wpList_append_own _ rfl _ _ 45 rfl (w.heap.size) 157 i0 (.int .u32 0) 1 4 Tryz.underlying45 hi hz0 hz1 hz2 rfl (by decide) _ _ _ rfl (hown.alloc _) ⟨_, 0, none⟩ 1 1 [(.int .u32 (cy : Int))] rfl rfl (cell_one_new _ _ _) (by intro u hu; simp at hu; subst hu; rfl) (by unfold maxLen; omega) (by omega) (by simp; omega) ?_)
    intro v' w1 hown' hgrow _
    have hbl' := hid (push_below HB.out (by omega) hown hgrow)
    clear hown hgrow
    rw [map_snoc] at hown'
    go_wp2
    go_ret
    refine givesL_of hown' (HD.out.append (Digs.cons (by omega) Digs.nil)) ?_ hbl'.out
    rw [val_snoc, HL.out, HV.out, vt_all xs k (by have := HN.out; omega), vt_all ys k (by have := HN'.out; omega)]
set_option maxHeartbeats 1000000 in
theorem ref_sub (u v : Value) (xs ys : List Nat) (w : World) (hx : Rd32 w u xs) (hy : Rd32 w v ys) (hlx : xs.length ≤ 1073741824) (hle : val ys ≤ val xs) (hll : ys.length ≤ xs.length) :
  Calls Tryz.prog 248 #[u, v] w (GivesD w (val xs - val ys)) := by
 obtain ⟨a, c, rfl, hc, hm, hxr, hxc⟩ := hx
 obtain ⟨a', c', rfl, hc', hm', hyr, hyc⟩ := hy
 unfold maxLen at hm hm'
 obtain ⟨i0, hi, hz0, hz1, hz2⟩ := info_parts info_u32
 obtain ⟨n, hn⟩ : ∃ n, n = xs.length := ⟨_, rfl⟩
 obtain ⟨n', hn'⟩ : ∃ n, n = ys.length := ⟨_, rfl⟩
 rw [← hn] at hc hxc hlx hll ⊢
 rw [← hn'] at hc' hyc hll ⊢
 have HN := hid hn
 have HN' := hid hn'
 have HX := hid hxr
 have HY := hid hyr
 have HXC := hid hxc
 have HYC := hid hyc
 have HLE := hid hle
 clear hn hn' hxr hyr hxc hyc hle
 go_enter Tryz.func248, Tryz.ntmps248
 go_wp2
 go_loopw [5, 6, 7] (fun o cv i wr => ∃ k q : Nat, k ≤ n ∧ i = .int .i64 k ∧ cv = .int .i64 (-(q : Int)) ∧ q ≤ 1 ∧ ∃ zs : List Nat, zs.length = k ∧ Digs zs ∧ val zs + vt ys k = vt xs k + 4294967296 ^ k * q ∧ wr.ownsRow w.heap.size 157 1 o k (zs.map U32) ∧ Below w.heap.size w wr) (fun _ _ i _ => n - (intOf i).toNat)
 case atStart => exact ⟨0, 0, by omega, rfl, rfl, by omega, [], rfl, Digs.nil, rfl, World.ownsRow_nil _ _ _ _, Below.refl _ _⟩
 case round =>
  obtain ⟨k, q, hk, rfl, rfl, hq, zs, hzl, hzd, hv, hown, hbl⟩ := hrel
  have HV := hid hv
  have HL := hid hzl
  have HD := hid hzd
  have hxk := HX.out k
  have hyk := HY.out k
  have HB := hid hbl
  have hbs := hbl.size
  clear hv hzl hzd hbl
  by_cases h1 : k < n
  ·obtain ⟨b, o, rfl, hb, hcell⟩ := HXC.out (by omega)
   have hcx := (HB.out.cell (p := ⟨b, o + k, none⟩) hb).trans (hcell k h1)
   clear hcell
   by_cases h2 : k < n'
   ·obtain ⟨b', o', rfl, hb', hcell⟩ := HYC.out (by omega)
    have hcy' := (HB.out.cell (p := ⟨b', o' + k, none⟩) hb').trans (hcell k h2)
    clear hcell
    have hdig := sub_digit (xs.getD k 0) (ys.getD k 0) q hxk hyk hq
    obtain ⟨d, q', hd, hq', he, hd1, hd2⟩ := hdig
    have hst := hid (sub_step (xs := xs) (ys := ys) HL.out HV.out he)
    have HD1 := hid hd1
    have HD2 := hid hd2
    clear he hd1 hd2
    generalize xs.getD k 0 = x at *
    generalize ys.getD k 0 = y at *
    go_wp2_with (at_builtin; refine wpList_append_own _ rfl _ _ 45 rfl (w.heap.size) 157 i0 (.int .u32 0) 1 4 Tryz.underlying45 hi hz0 hz1 hz2 rfl (by decide) _ _ _ rfl (hown.alloc _) ⟨_, 0, none⟩ 1 1 [(.int .u32 ((-(q : Int) + x - y) % 4294967296))] rfl rfl (cell_one_new _ _ _) (by intro u hu; simp at hu; subst hu; rfl) (by unfold maxLen; omega) (by omega) (by simp; omega) ?_)
    intro v' w1 hown' hgrow _
    have hbl' := hid (push_below HB.out (by omega) hown hgrow)
    clear hown hgrow hcx
    rw [HD1.out, map_snoc] at hown'
    go_wp2
    rw [HD2.out]
    go_roundw
    case rel => exact ⟨k + 1, q', by omega, by go_num, rfl, by omega, zs ++ [d], by simp [HL.out], HD.out.append (Digs.cons (by omega) Digs.nil), hst.out, hown', hbl'.out⟩
    case measure => simp [intOf]; omega
   ·have h0 : ys.getD k 0 = 0 := getD_beyond (by have := HN'.out; omega)
    obtain ⟨d, q', hd, hq', he, hd1, hd2⟩ := sub_digit (xs.getD k 0) 0 q hxk (by omega) hq
    have hst := hid (sub_step (xs := xs) (ys := ys) HL.out HV.out (d := d) (q' := q') (by rw [h0]; exact he))
    rw [show (-(q : Int) + (xs.getD k 0 : Nat) - (0 : Nat)) = -(q : Int) + (xs.getD k 0 : Nat) from by omega] at hd1 hd2
    have HD1 := hid hd1
    have HD2 := hid hd2
    clear he hd1 hd2 h0 hyk
    generalize xs.getD k 0 = x at *
    go_wp2_with (at_builtin; refine wpList_append_own _ rfl _ _ 45 rfl (w.heap.size) 157 i0 (.int .u32 0) 1 4 Tryz.underlying45 hi hz0 hz1 hz2 rfl (by decide) _ _ _ rfl (hown.alloc _) ⟨_, 0, none⟩ 1 1 [(.int .u32 ((-(q : Int) + x) % 4294967296))] rfl rfl (cell_one_new _ _ _) (by intro u hu; simp at hu; subst hu; rfl) (by unfold maxLen; omega) (by omega) (by simp; omega) ?_)
    intro v' w1 hown' hgrow _
    have hbl' := hid (push_below HB.out (by omega) hown hgrow)
    clear hown hgrow hcx
    rw [HD1.out, map_snoc] at hown'
    go_wp2
    rw [HD2.out]
    go_roundw
    case rel => exact ⟨k + 1, q', by omega, by go_num, rfl, by omega, zs ++ [d], by simp [HL.out], HD.out.append (Digs.cons (by omega) Digs.nil), hst.out, hown', hbl'.out⟩
    case measure => simp [intOf]; omega
  ·have hfin : val zs = val xs - val ys := by
    have h1' := HV.out
    rw [vt_all xs k (by have := HN.out; omega), vt_all ys k (by have := HN'.out; omega)] at h1'
    exact sub_done HL.out HD.out h1' HLE.out hq
   have HF := hid hfin
   clear hfin
   obtain ⟨hr1, hr2, _, ra, rc, rfl⟩ := rd_of_owns hown HD.out
   have HR1 := hid hr1
   have HR2 := hid hr2
   clear hr1 hr2 hown
   go_wp2_with fail
   refine (ref_trim _ _ _ HR1.out).mono ?_
   rintro e w' ⟨a2, c2, rfl, hv2, ho2, k2, rfl⟩
   rw [HF.out] at hv2 ho2
   rw [HF.out]
   have HV2 := hid (hv2 _ HR1.out)
   have HO2 := hid ho2
   clear hv2 ho2
   go_wp2
   go_ret
   exact ⟨_, _, rfl, HV2.out, fun R hR => HO2.out R (HR2.out R hR), below_drewN HB.out⟩
end Go.Proofs.YthblaeleogdfpaaGreatDoor.Fr

namespace Go.Proofs.YthblaeleogdfpaaGreatDoor.Fr
open Go.RowKit
set_option maxRecDepth 100000 in
set_option maxHeartbeats 2000000 in
theorem ref_mul (u v : Value) (xs ys : List Nat) (w : World) (hx : Rd32 w u xs) (hy : Rd32 w v ys) (hlx : xs.length ≤ 1073741824) (hly : ys.length ≤ 1073741824) :
  Calls Tryz.prog 249 #[u, v] w (GivesD w (val xs * val ys)) := by
 obtain ⟨a, c, rfl, hc, hm, hxr, hxc⟩ := hx
 obtain ⟨a', c', rfl, hc', hm', hyr, hyc⟩ := hy
 unfold maxLen at hm hm'
 obtain ⟨i0, hi, hz0, hz1, hz2⟩ := info_parts info_u32
 obtain ⟨n, hn⟩ : ∃ n, n = xs.length := ⟨_, rfl⟩
 obtain ⟨n', hn'⟩ : ∃ n, n = ys.length := ⟨_, rfl⟩
 rw [← hn] at hc hxc hlx ⊢
 rw [← hn'] at hc' hyc hly ⊢
 have HN := hid hn
 have HN' := hid hn'
 have HX := hid hxr
 have HY := hid hyr
 have HXC := hid hxc
 have HYC := hid hyc
 clear hn hn' hxr hyr hxc hyc
 go_enter Tryz.func249, Tryz.ntmps249
 go_wp2_with (at_make; refine wpList_make_full _ rfl _ _ 45 rfl w.heap.size 157 i0 (.int .u32 0) 1 Tryz.underlying45 hi hz0 hz1 _ _ _ _ (n + n') rfl rfl (by omega) (by omega) (by rw [hz2]; omega) (by unfold maxLen; omega) (Nat.le_refl _) ?_)
 intro w1 hown hgrow
 have hO := Own32.of_made hown
 have hb1 : Below w.heap.size w w1 := (Below.refl _ _).grown hgrow (Nat.le_refl _) (fun k h => by cases h)
 have HO := hid hO
 have HB1 := hid hb1
 clear hown hgrow hO hb1
 generalize hg : w.heap.size = g at *
 have HG := hid hg
 clear hg
 go_wp2
 go_loopw [6] (fun i wr => ∃ k : Nat, k ≤ n ∧ i = .int .i64 k ∧ ∃ zs, Own32 wr g (n + n') zs ∧ val zs = vt xs k * val ys ∧ (∀ p, k + n' ≤ p → zs.getD p 0 = 0) ∧ Below g w wr) (fun i _ => n - (intOf i).toNat)
 case atStart => exact ⟨0, by omega, rfl, _, HO.out, by rw [val_replicate]; simp [vt, val], fun p _ => by simp only [List.getD, List.getElem?_replicate]; split <;> rfl, HB1.out⟩
 case round =>
  clear HB1 HO
  obtain ⟨k, hk, rfl, zs, hzo, hzv, hzz, hbl⟩ := hrel
  have HO := hid hzo
  have HV := hid hzv
  have HZ := hid hzz
  have HB := hid hbl
  clear hzo hzv hzz hbl
  by_cases h1 : k < n
  ·obtain ⟨b, o, rfl, hb, hcell⟩ := HXC.out (by omega)
   have hbg : b < g := by have := HG.out; omega
   have HCX := hid (hcell k h1)
   have hxk := HX.out k
   have HXK : Hid (xs.getD k 0 = xs.getD k 0) := hid rfl
   clear hcell
   obtain ⟨x, hxe⟩ : ∃ x, x = xs.getD k 0 := ⟨_, rfl⟩
   rw [← hxe] at HCX hxk
   have HXE := hid hxe
   clear hxe HXK
   obtain ⟨wo, rfl⟩ : ∃ wo : World, wo = wr := ⟨_, rfl⟩
   go_wp2
   go_loopw [7, 8] (fun cv jv wr => ∃ j cy : Nat, j ≤ n' ∧ jv = .int .i64 j ∧ cv = .int .u64 cy ∧ cy < 4294967296 ∧ ∃ zs, Own32 wr g (n + n') zs ∧ val zs + 4294967296 ^ (k + j) * cy = vt xs k * val ys + x * (4294967296 ^ k * vt ys j) ∧ (∀ p, k + n' ≤ p → zs.getD p 0 = 0) ∧ Below g w wr) (fun _ jv _ => n' - (intOf jv).toNat)
   case atStart => exact ⟨0, 0, by omega, rfl, rfl, by omega, zs, HO.out, by rw [HV.out, vt_zero]; simp, HZ.out, HB.out⟩
   case round =>
    clear HO HV HZ HB
    obtain ⟨j, cy, hj, rfl, rfl, hcy, zs, hzo, hzv, hzz, hbl⟩ := hrel
    have HO := hid hzo
    have HV := hid hzv
    have HZ := hid hzz
    have HB := hid hbl
    clear hzo hzv hzz hbl
    have hcx := (HB.out.cell (p := ⟨b, o + k, none⟩) hbg).trans HCX.out
    by_cases h2 : j < n'
    ·obtain ⟨b', o', rfl, hb', hcell⟩ := HYC.out (by omega)
     have hcy' := (HB.out.cell (p := ⟨b', o' + j, none⟩) (by have := HG.out; omega)).trans (hcell j h2)
     clear hcell
     have hyj := HY.out j
     obtain ⟨hcz, hfz⟩ := HO.out.2.2.2 (k + j) (by omega)
     have hzj := HO.out.2.1 (k + j)
     have HST := hid (fun t ht => mul_step (t := t) (by rw [HO.out.1]; omega) HV.out ht)
     have hmb := mul_bound hxk hyj hcy hzj
     obtain ⟨m, hme⟩ : ∃ m, m = x * ys.getD j 0 := ⟨_, rfl⟩
     rw [← hme] at HST hmb
     have hme' : ((x : Nat) : Int) * ((ys.getD j 0 : Nat) : Int) = (m : Int) := by rw [hme]; simp
     generalize ys.getD j 0 = y at *
     generalize zs.getD (k + j) 0 = z at *
     clear hme
     have hm1 := hmb.1
     have hm2 := hmb.2
     clear hmb
     go_wp2
     go_quiet (fail)
     go_wp2
     have hst := HST.out _ rfl
     have HST2 := hid hst
     clear hst HST hcx hcy'
     have hset := HO.out.set (show k + j < n + n' by omega) (show (cy + (m + z)) % 4294967296 < 4294967296 by omega)
     have HO2 := hid hset
     clear hset
     go_roundw
     case rel => exact ⟨j + 1, (cy + (m + z)) / 4294967296, by omega, by go_num, by go_num, by omega, zs.set (k + j) ((cy + (m + z)) % 4294967296), HO2.out, HST2.out, fun p hp => by rw [getD_set_other (by omega)]; exact HZ.out p hp, (below_drewN HB.out).setCell (Nat.le_refl _) _⟩
     case measure => simp [intOf]; omega
    ·obtain rfl : n' = j := by omega
     obtain ⟨hcz, hfz⟩ := HO.out.2.2.2 (k + n') (by omega)
     have hv2 := HV.out
     rw [HXE.out] at hv2
     have hrow := mul_row (by rw [HO.out.1]; omega) (HZ.out _ (Nat.le_refl _)) (by have := HN'.out; omega) hv2
     have HR := hid hrow
     have HO2 := hid (HO.out.set (show k + n' < n + n' by omega) hcy)
     rw [HZ.out _ (Nat.le_refl _)] at hcz
     clear hrow hv2 hcx
     go_wp2
     go_roundw
     case rel => exact ⟨k + 1, by omega, by go_num, zs.set (k + n') cy, HO2.out, HR.out, fun p hp => by rw [getD_set_other (by omega)]; exact HZ.out p (by omega), HB.out.setCell (Nat.le_refl _) _⟩
     case measure => simp [intOf]; omega
  ·have hV : val zs = val xs * val ys := by rw [HV.out, vt_all xs k (by have := HN.out; omega)]
   have HF := hid hV
   have hgl := HG.out
   clear hV
   go_wp2_with fail
   refine (ref_trim _ _ _ (HO.out.rd (Nat.le_refl _) (by unfold maxLen; omega))).mono ?_
   rintro e w' ⟨a2, c2, rfl, hv2, ho2, k2, rfl⟩
   rw [HF.out] at hv2 ho2
   rw [HF.out]
   have HV2 := hid (hv2 _ (HO.out.rd (Nat.le_refl _) (by unfold maxLen; omega)))
   have HO2 := hid ho2
   clear hv2 ho2
   go_wp2
   go_ret
   exact ⟨_, _, rfl, HV2.out, fun R hR => HO2.out R (Off.of_lt (by omega)), by rw [hgl]; exact below_drewN HB.out⟩
end Go.Proofs.YthblaeleogdfpaaGreatDoor.Fr

namespace Go.Proofs.YthblaeleogdfpaaGreatDoor.Fr
open Go.RowKit
theorem twice_digit (x q : Nat) (hx : x < 4294967296) (hq : q ≤ 1) : ∃ D q', D < 4294967296 ∧ q' ≤ 1 ∧ D + 4294967296 * q' = 2 * x + q ∧ bits BinOp.or IntKind.u32 ((x : Int) * 2 % 4294967296) (q : Int) = (D : Int) ∧ (x : Int) / 2147483648 = (q' : Int) := by
 refine ⟨x * 2 % 4294967296 + q, x / 2147483648, by omega, by omega, by omega, ?_, by omega⟩
 rw [show ((x : Int) * 2 % 4294967296) = ((x * 2 % 4294967296 : Nat) : Int) from by omega, u32_or_nat _ _ (by omega) (by omega), nat_join1 _ _ (by omega) (by omega)]
set_option maxHeartbeats 1000000 in
theorem ref_twice (u : Value) (xs : List Nat) (d : Nat) (w : World) (hx : Rd32 w u xs) (hlx : xs.length ≤ 1073741824) (hd : d ≤ 1) :
  Calls Tryz.prog 272 #[u, .int .u32 (d : Int)] w (GivesD w (2 * val xs + d)) := by
 obtain ⟨a, c, rfl, hc, hm, hxr, hxc⟩ := hx
 unfold maxLen at hm
 obtain ⟨i0, hi, hz0, hz1, hz2⟩ := info_parts info_u32
 obtain ⟨n, hn⟩ : ∃ n, n = xs.length := ⟨_, rfl⟩
 rw [← hn] at hc hxc hlx ⊢
 have HN := hid hn
 have HX := hid hxr
 have HXC := hid hxc
 clear hn hxr hxc
 go_enter Tryz.func272, Tryz.ntmps272
 go_wp2
 go_loopw [1, 5, 6] (fun cv o i wr => ∃ k q : Nat, k ≤ n ∧ i = .int .i64 k ∧ cv = .int .u32 (q : Int) ∧ q ≤ 1 ∧ ∃ zs : List Nat, zs.length = k ∧ Digs zs ∧ val zs + 4294967296 ^ k * q = 2 * vt xs k + d ∧ wr.ownsRow w.heap.size 157 1 o k (zs.map U32) ∧ Below w.heap.size w wr) (fun _ _ i _ => n - (intOf i).toNat)
 case atStart => exact ⟨0, d, by omega, rfl, rfl, by omega, [], rfl, Digs.nil, by simp [vt_zero, val], World.ownsRow_nil _ _ _ _, Below.refl _ _⟩
 case round =>
  obtain ⟨k, q, hk, rfl, rfl, hq, zs, hzl, hzd, hv, hown, hbl⟩ := hrel
  have HV := hid hv
  have HL := hid hzl
  have HD := hid hzd
  have hxk := HX.out k
  have HB := hid hbl
  have hbs := hbl.size
  clear hv hzl hzd hbl
  by_cases h1 : k < n
  ·obtain ⟨b, o, rfl, hb, hcell⟩ := HXC.out (by omega)
   have hcx := (HB.out.cell (p := ⟨b, o + k, none⟩) hb).trans (hcell k h1)
   have HCX := hid (hcell k h1)
   clear hcell
   obtain ⟨D, q', hD, hq', he, hd1, hd2⟩ := twice_digit (xs.getD k 0) q hxk hq
   have hst := hid (twice_step (xs := xs) HL.out HV.out he)
   have HD1 := hid hd1
   have HD2 := hid hd2
   clear he hd1 hd2
   generalize xs.getD k 0 = x at *
   go_wp2_with (at_builtin; refine wpList_append_own _ rfl _ _ 45 rfl (w.heap.size) 157 i0 (.int .u32 0) 1 4 Tryz.underlying45 hi hz0 hz1 hz2 rfl (by decide) _ _ _ rfl (hown.alloc _) ⟨_, 0, none⟩ 1 1 [(.int .u32 (bits BinOp.or IntKind.u32 ((x : Int) * 2 % 4294967296) (q : Int)))] rfl rfl (cell_one_new _ _ _) (by intro u hu; simp at hu; subst hu; rfl) (by unfold maxLen; omega) (by omega) (by simp; omega) ?_)
   intro v' w1 hown' hgrow _
   have hbl2 := push_below HB.out (by omega) hown hgrow
   have hcx' := (hbl2.cell (p := ⟨b, o + k, none⟩) hb).trans HCX.out
   have hbl' := hid hbl2
   clear hown hgrow hcx hbl2
   rw [HD1.out, map_snoc] at hown'
   go_wp2
   rw [HD2.out]
   go_roundw
   case rel => exact ⟨k + 1, q', by omega, by go_num, rfl, by omega, zs ++ [D], by simp [HL.out], HD.out.append (Digs.cons (by omega) Digs.nil), hst.out, hown', hbl'.out⟩
   case measure => simp [intOf]; omega
  ·go_wp2_with (at_builtin; refine wpList_append_own _ rfl _ _ 45 rfl (w.heap.size) 157 i0 (.int .u32 0) 1 4 Tryz.underlying45 hi hz0 hz1 hz2 rfl (by decide) _ _ _ rfl (hown.alloc _) ⟨_, 0, none⟩ 1 1 [(.int .u32 (q : Int))] rfl rfl (cell_one_new _ _ _) (by intro u hu; simp at hu; subst hu; rfl) (by unfold maxLen; omega) (by omega) (by simp; omega) ?_)
   intro v' w1 hown' hgrow _
   have hbl' := hid (push_below HB.out (by omega) hown hgrow)
   have hbs' := hbl'.out.size
   clear hown hgrow
   rw [map_snoc] at hown'
   have hfin : val (zs ++ [q]) = 2 * val xs + d := by
    rw [val_snoc, HL.out, HV.out, vt_all xs k (by have := HN.out; omega)]
   have HF := hid hfin
   obtain ⟨hr1, hr2, _, ra, rc, rfl⟩ := rd_of_owns hown' (HD.out.append (Digs.cons (by omega) Digs.nil))
   have HR1 := hid hr1
   have HR2 := hid hr2
   clear hr1 hr2 hown' hfin
   go_wp2_with fail
   refine (ref_trim _ _ _ HR1.out).mono ?_
   rintro e w' ⟨a2, c2, rfl, hv2, ho2, k2, rfl⟩
   rw [HF.out] at hv2 ho2
   rw [HF.out]
   have HV2 := hid (hv2 _ HR1.out)
   have HO2 := hid ho2
   clear hv2 ho2
   go_wp2
   go_ret
   exact ⟨_, _, rfl, HV2.out, fun R hR => HO2.out R (HR2.out R hR), below_drewN hbl'.out⟩
theorem half_digit (x y : Nat) (hx : x < 4294967296) (hy : y < 4294967296) : bits BinOp.or IntKind.u32 ((x : Int) / 2) ((y : Int) * 2147483648 % 4294967296) = ((x / 2 + y % 2 * 2147483648 : Nat) : Int) := by
 rw [show ((x : Int) / 2) = ((x / 2 : Nat) : Int) from by omega, show ((y : Int) * 2147483648 % 4294967296) = ((y % 2 * 2147483648 : Nat) : Int) from by omega,
  u32_or_nat _ _ (by omega) (by omega), nat_join31' _ _ (by omega) (by omega)]
 omega
set_option maxHeartbeats 1000000 in
set_option maxRecDepth 100000 in
theorem ref_half (u : Value) (xs : List Nat) (w : World) (hx : Rd32 w u xs) (hlx : xs.length ≤ 1073741824) (hpos : 0 < xs.length) :
  Calls Tryz.prog 271 #[u] w (GivesD w (val xs / 2)) := by
 obtain ⟨a, c, rfl, hc, hm, hxr, hxc⟩ := hx
 unfold maxLen at hm
 obtain ⟨i0, hi, hz0, hz1, hz2⟩ := info_parts info_u32
 obtain ⟨b, o, rfl, hb, hcell⟩ := hxc hpos
 have hnews := Rd32.news (n := 0) (c := 0) (w := w.alloc (.cells #[] 157)) (fun i hi => (World.cell?_alloc_lt _ _ ⟨b, o + i, none⟩ hb).trans (hcell i hi))
 obtain ⟨n, hn⟩ : ∃ n, n = xs.length := ⟨_, rfl⟩
 rw [← hn] at hc hcell hlx hpos ⊢
 have HN := hid hn
 have HX := hid hxr
 have HXC := hid hcell
 have HNEWS := hid hnews
 have hlen : (xs.map U32).length = n * 1 := by simp [hn]
 have HLEN := hid hlen
 clear hn hxr hcell hxc hnews hlen
 have hown0 : (w.alloc (.cells #[] 157)).ownsRow w.heap.size 157 1 (.slice (some ⟨w.heap.size, 0, none⟩) 0 0) 0 [] := World.ownsRow_made w #[] 0 (Nat.le_refl _) (Nat.zero_le _) rfl
 have HOWN := hid hown0
 clear hown0
 go_enter Tryz.func271, Tryz.ntmps271
 go_wp2_with (at_builtin; refine wpList_append_own _ rfl _ _ 45 rfl w.heap.size 157 i0 (.int .u32 0) 1 4 Tryz.underlying45 hi hz0 hz1 hz2 rfl (by decide) _ _ _ rfl HOWN.out ⟨b, o, none⟩ n c (xs.map U32) rfl HLEN.out HNEWS.out (u32_one xs) (by unfold maxLen; omega) (by omega) (by go_size) ?_)
 intro v' w1 hown hgrow _
 obtain ⟨g, cap, rfl, hcap, hcm, hg, hO⟩ := own32_of_owns hown HX.out hpos
 have HO := hid hO
 have hbl : Below w.heap.size w w1 := ((Below.refl _ w).alloc (Nat.le_refl _) _).grown hgrow (by simp) (fun k hk => (HOWN.out.lt k hk).1)
 have HB := hid hbl
 unfold maxLen at hcm
 clear hO hown hgrow hbl HOWN HNEWS HLEN
 go_wp2
 go_loopw [10] (fun i wr => ∃ k : Nat, k ≤ n ∧ i = .int .i64 k ∧ Own32 wr g n ((halfF xs).take k ++ xs.drop k) ∧ Below w.heap.size w wr) (fun i _ => n - (intOf i).toNat)
 case atStart => exact ⟨0, by omega, rfl, by simpa using HO.out, HB.out⟩
 case round =>
  clear HO HB
  obtain ⟨k, hk, rfl, hO, hbl⟩ := hrel
  have HO := hid hO
  have HB := hid hbl
  clear hO hbl
  by_cases h1 : k < n
  ·obtain ⟨hcz, hfz⟩ := HO.out.2.2.2 k h1
   rw [mixed_getD (halfF_length xs) (by have := HN.out; omega)] at hcz
   have hset := halfF_getD xs k (by have := HN.out; omega)
   have hxk := HX.out k
   have hyk := HX.out (k + 1)
   have hmx := mixed_set (halfF_length xs) (show k < xs.length by have := HN.out; omega)
   by_cases h2 : k + 1 < n
   ·have hcx := (HB.out.cell (p := ⟨b, o + (k + 1), none⟩) hb).trans (HXC.out (k + 1) h2)
    have hd := half_digit (xs.getD k 0) (xs.getD (k + 1) 0) hxk hyk
    rw [← hset] at hd
    have HSET := hid hset
    have HMX := hid hmx
    have HXY := hid (HXC.out (k + 1) h2)
    clear hset hmx
    generalize xs.getD (k + 1) 0 = y at *
    generalize xs.getD k 0 = x at *
    go_wp2
    have hO1 := HO.out.set h1 (show x / 2 < 4294967296 by omega)
    have hb1 : Below w.heap.size w (wr.setCell ⟨g, k, none⟩ (U32 (x / 2))) := HB.out.setCell hg _
    rw [show ((x : Int) / 2) = ((x / 2 : Nat) : Int) from by omega]
    have hcx1 := (hb1.cell (p := ⟨b, o + (k + 1), none⟩) hb).trans HXY.out
    generalize wr.setCell ⟨g, k, none⟩ (U32 (x / 2)) = W at *
    clear hcz hfz hcx
    obtain ⟨hcz, hfz⟩ := hO1.2.2.2 k h1
    rw [getD_set_self (by rw [HO.out.1]; exact h1)] at hcz
    have HO1 := hid (hO1.set h1 (d := (halfF xs).getD k 0) (digs_halfF HX.out k))
    have HB1 := hid hb1
    clear hO1 hb1
    go_region
    all_goals
     go_wp2
     have hO2 := HO1.out
     rw [List.set_set, HMX.out] at hO2
     have HO2 := hid hO2
     clear hO2 hd
     go_roundw
     case rel => exact ⟨k + 1, by omega, by go_num, HO2.out.drew, (HB1.out.setCell (p := ⟨g, k, none⟩) hg _).drew⟩
     case measure => simp [intOf]; omega
   ·have h0 : xs.getD (k + 1) 0 = 0 := getD_beyond (by have := HN.out; omega)
    rw [h0, Nat.zero_mod, Nat.zero_mul, Nat.add_zero] at hset
    have HMX := hid hmx
    have HSET := hid hset
    clear hset hmx h0 hyk
    generalize xs.getD k 0 = x at *
    go_wp2
    have hO1 := HO.out.set h1 (show x / 2 < 4294967296 by omega)
    rw [← HSET.out, HMX.out, HSET.out] at hO1
    have HO1 := hid hO1
    have HB1 := hid (HB.out.setCell (p := ⟨g, k, none⟩) hg (U32 (x / 2)))
    rw [show ((x : Int) / 2) = ((x / 2 : Nat) : Int) from by omega]
    clear hO1
    go_roundw
    case rel => exact ⟨k + 1, by omega, by go_num, HO1.out, HB1.out⟩
    case measure => simp [intOf]; omega
  ·have hO := HO.out
   rw [List.take_of_length_le (by rw [halfF_length]; have := HN.out; omega), List.drop_eq_nil_of_le (by have := HN.out; omega), List.append_nil] at hO
   have HR1 := hid (hO.rd hcap (by unfold maxLen; exact hcm))
   clear hO
   go_wp2_with fail
   refine (ref_trim _ _ _ HR1.out).mono ?_
   rintro e w' ⟨a2, c2, rfl, hv2, ho2, k2, rfl⟩
   rw [val_halfF] at hv2 ho2
   rw [val_halfF]
   have HV2 := hid (hv2 _ HR1.out)
   have HO2 := hid ho2
   clear hv2 ho2
   go_wp2
   go_ret
   exact ⟨_, _, rfl, HV2.out, fun R hR => HO2.out R (Off.of_lt (by omega)), below_drewN HB.out⟩
end Go.Proofs.YthblaeleogdfpaaGreatDoor.Fr
