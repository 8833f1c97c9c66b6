/- Contracts of the reference's sum and difference of words. Contracts of words.minus and words.plus. Contract of words.plus. Digits that a slot holds, wherever they lie. No program in sight. -/
import Derived.Test.YtaajpliifdlokaaGreatDoorGFrab
import Derived.Deep.Cut
import Derived.Deep.RegionHeld3
import Derived.Test.YtaajpliifdlokaaGreatDoorGFrac
set_option linter.unusedVariables false
set_option linter.unusedSimpArgs false
namespace Go.Proofs.YtaajpliifdlokaaGreatDoor.Fr
open Go.RowKit
def AddRel (w : World) (xs ys : List Nat) (o cv i : Value) (wr : World) (k c : Nat) : Prop :=
  ∃ zs : List Nat, zs.length = k ∧ Digs zs ∧ val zs + 4294967296 ^ k * c = vt xs k + vt ys k ∧ wr.ownsRow w.heap.size 159 1 o k (zs.map U32) ∧ Below w.heap.size w wr
set_option maxHeartbeats 1000000 in
theorem ref_add (u v : Value) (xs ys : List Nat) (w : World) (hx : Rd32 w u xs) (hy : Rd32 w v ys) (hlx : xs.length ≤ 1073741824) (hly : ys.length ≤ 1073741824) :
  Calls Tryz.prog 118 #[u, v] w (GivesL w (val xs + val ys)) := by
 obtain ⟨a, c, rfl, hc, hm, hxr, hxc⟩ := hx
 obtain ⟨a', c', rfl, hc', hm', hyr, hyc⟩ := hy
 unfold maxLen at hm hm'
 obtain ⟨i0, hi, hz0, hz1, hz2⟩ := info_parts info_u32
 obtain ⟨n, hn⟩ : ∃ n, n = xs.length := ⟨_, rfl⟩
 obtain ⟨n', hn'⟩ : ∃ n, n = ys.length := ⟨_, rfl⟩
 rw [← hn] at hc hxc hlx ⊢
 rw [← hn'] at hc' hyc hly ⊢
 have HN := hid hn
 have HN' := hid hn'
 have HX := hid hxr
 have HY := hid hyr
 have HXC := hid hxc
 have HYC := hid hyc
 clear hn hn' hxr hyr hxc hyc
 go_enter Tryz.func118, Tryz.ntmps118
 go_wp2
 go_loopw [5, 6, 7] (fun o cv i wr => ∃ k c : Nat, (k ≤ n ∨ k ≤ n') ∧ i = .int .i64 k ∧ cv = .int .u64 c ∧ c ≤ 1 ∧ AddRel w xs ys o cv i wr k c) (fun _ _ i _ => n + n' - (intOf i).toNat)
 case atStart => exact ⟨0, 0, by omega, rfl, rfl, by omega, [], rfl, Digs.nil, rfl, World.ownsRow_nil _ _ _ _, Below.refl _ _⟩
 case round =>
  obtain ⟨k, cy, hk, rfl, rfl, hcy, zs, hzl, hzd, hv, hown, hbl⟩ := hrel
  have HV := hid hv
  have HL := hid hzl
  have HD := hid hzd
  have hxk := HX.out k
  have hyk := HY.out k
  have HB := hid hbl
  have hbs := hbl.size
  clear hv hzl hzd hbl
  by_cases h1 : k < n
  ·obtain ⟨b, o, rfl, hb, hcell⟩ := HXC.out (by omega)
   have hcx := (HB.out.cell (p := ⟨b, o + k, none⟩) hb).trans (hcell k h1)
   clear hcell
   have hst := hid (add_step (xs := xs) (ys := ys) HL.out HV.out)
   by_cases h2 : k < n'
   ·obtain ⟨b', o', rfl, hb', hcell⟩ := HYC.out (by omega)
    have hcy' := (HB.out.cell (p := ⟨b', o' + k, none⟩) hb').trans (hcell k h2)
    clear hcell
    generalize xs.getD k 0 = x at *
    generalize ys.getD k 0 = y at *
    go_wp2_with (at_builtin; refine wpList_append_own _ rfl _ _ 29 rfl (w.heap.size) 159 i0 (.int .u32 0) 1 4 Tryz.underlying29 hi hz0 hz1 hz2 rfl (by decide) _ _ _ rfl (hown.alloc _) ⟨_, 0, none⟩ 1 1 [(.int .u32 (((cy : Int) + x + y) % 4294967296))] rfl rfl (cell_one_new _ _ _) (by intro u hu; simp at hu; subst hu; rfl) (by unfold maxLen; omega) (by omega) (by simp; omega) ?_)
    intro v' w1 hown' hgrow _
    have hbl' := hid (push_below HB.out (by omega) hown hgrow)
    clear hown hgrow hcx hcy'
    rw [show ((cy : Int) + x + y) % 4294967296 = ((cy + x + y) % 4294967296 : Nat) from by omega, map_snoc] at hown'
    go_wp2
    go_roundw
    case rel => exact ⟨k + 1, (cy + x + y) / 4294967296, by omega, by go_num, by go_num, by omega, zs ++ [(cy + x + y) % 4294967296], by simp [HL.out], HD.out.append (Digs.cons (by omega) Digs.nil), hst.out, hown', hbl'.out⟩
    case measure => simp [intOf]; omega
   ·have h0 : ys.getD k 0 = 0 := getD_beyond (by have := HN'.out; omega)
    have hst2 := hst.out
    rw [h0, Nat.add_zero] at hst2
    clear hst h0 hyk
    have hst := hid hst2
    clear hst2
    generalize xs.getD k 0 = x at *
    go_wp2_with (at_builtin; refine wpList_append_own _ rfl _ _ 29 rfl (w.heap.size) 159 i0 (.int .u32 0) 1 4 Tryz.underlying29 hi hz0 hz1 hz2 rfl (by decide) _ _ _ rfl (hown.alloc _) ⟨_, 0, none⟩ 1 1 [(.int .u32 (((cy : Int) + x) % 4294967296))] rfl rfl (cell_one_new _ _ _) (by intro u hu; simp at hu; subst hu; rfl) (by unfold maxLen; omega) (by omega) (by simp; omega) ?_)
    intro v' w1 hown' hgrow _
    have hbl' := hid (push_below HB.out (by omega) hown hgrow)
    clear hown hgrow hcx
    rw [show ((cy : Int) + x) % 4294967296 = ((cy + x) % 4294967296 : Nat) from by omega, map_snoc] at hown'
    go_wp2
    go_roundw
    case rel => exact ⟨k + 1, (cy + x) / 4294967296, by omega, by go_num, by go_num, by omega, zs ++ [(cy + x) % 4294967296], by simp [HL.out], HD.out.append (Digs.cons (by omega) Digs.nil), hst.out, hown', hbl'.out⟩
    case measure => simp [intOf]; omega
  ·by_cases h2 : k < n'
   ·obtain ⟨b, o, rfl, hb, hcell⟩ := HYC.out (by omega)
    have hcx := (HB.out.cell (p := ⟨b, o + k, none⟩) hb).trans (hcell k h2)
    clear hcell
    have h0 : xs.getD k 0 = 0 := getD_beyond (by have := HN.out; omega)
    have hst2 := add_step (xs := xs) (ys := ys) HL.out HV.out
    rw [h0, Nat.add_zero] at hst2
    clear h0 hxk
    have hst := hid hst2
    clear hst2
    generalize ys.getD k 0 = x at *
    go_wp2_with (at_builtin; refine wpList_append_own _ rfl _ _ 29 rfl (w.heap.size) 159 i0 (.int .u32 0) 1 4 Tryz.underlying29 hi hz0 hz1 hz2 rfl (by decide) _ _ _ rfl (hown.alloc _) ⟨_, 0, none⟩ 1 1 [(.int .u32 (((cy : Int) + x) % 4294967296))] rfl rfl (cell_one_new _ _ _) (by intro u hu; simp at hu; subst hu; rfl) (by unfold maxLen; omega) (by omega) (by simp; omega) ?_)
    intro v' w1 hown' hgrow _
    have hbl' := hid (push_below HB.out (by omega) hown hgrow)
    clear hown hgrow hcx
    rw [show ((cy : Int) + x) % 4294967296 = ((cy + x) % 4294967296 : Nat) from by omega, map_snoc] at hown'
    go_wp2
    go_roundw
    case rel => exact ⟨k + 1, (cy + x) / 4294967296, by omega, by go_num, by go_num, by omega, zs ++ [(cy + x) % 4294967296], by simp [HL.out], HD.out.append (Digs.cons (by omega) Digs.nil), hst.out, hown', hbl'.out⟩
    case measure => simp [intOf]; omega
   ·go_wp2_with (at_builtin; refine wpList_append_own _ rfl _ _ 29 rfl (w.heap.size) 159 i0 (.int .u32 0) 1 4 Tryz.underlying29 hi hz0 hz1 hz2 rfl (by decide) _ _ _ rfl (hown.alloc _) ⟨_, 0, none⟩ 1 1 [(.int .u32 (cy : Int))] rfl rfl (cell_one_new _ _ _) (by intro u hu; simp at hu; subst hu; rfl) (by unfold maxLen; omega) (by omega) (by simp; omega) ?_)
    intro v' w1 hown' hgrow _
    have hbl' := hid (push_below HB.out (by omega) hown hgrow)
    clear hown hgrow
    rw [map_snoc] at hown'
    go_wp2
    go_ret
    refine givesL_of hown' (HD.out.append (Digs.cons (by omega) Digs.nil)) ?_ hbl'.out
    rw [val_snoc, HL.out, HV.out, vt_all xs k (by have := HN.out; omega), vt_all ys k (by have := HN'.out; omega)]
set_option maxHeartbeats 1000000 in
theorem ref_sub (u v : Value) (xs ys : List Nat) (w : World) (hx : Rd32 w u xs) (hy : Rd32 w v ys) (hlx : xs.length ≤ 1073741824) (hle : val ys ≤ val xs) (hll : ys.length ≤ xs.length) :
  Calls Tryz.prog 119 #[u, v] w (GivesD w (val xs - val ys)) := by
 obtain ⟨a, c, rfl, hc, hm, hxr, hxc⟩ := hx
 obtain ⟨a', c', rfl, hc', hm', hyr, hyc⟩ := hy
 unfold maxLen at hm hm'
 obtain ⟨i0, hi, hz0, hz1, hz2⟩ := info_parts info_u32
 obtain ⟨n, hn⟩ : ∃ n, n = xs.length := ⟨_, rfl⟩
 obtain ⟨n', hn'⟩ : ∃ n, n = ys.length := ⟨_, rfl⟩
 rw [← hn] at hc hxc hlx hll ⊢
 rw [← hn'] at hc' hyc hll ⊢
 have HN := hid hn
 have HN' := hid hn'
 have HX := hid hxr
 have HY := hid hyr
 have HXC := hid hxc
 have HYC := hid hyc
 have HLE := hid hle
 clear hn hn' hxr hyr hxc hyc hle
 go_enter Tryz.func119, Tryz.ntmps119
 go_wp2
 go_loopw [5, 6, 7] (fun o cv i wr => ∃ k q : Nat, k ≤ n ∧ i = .int .i64 k ∧ cv = .int .i64 (-(q : Int)) ∧ q ≤ 1 ∧ ∃ zs : List Nat, zs.length = k ∧ Digs zs ∧ val zs + vt ys k = vt xs k + 4294967296 ^ k * q ∧ wr.ownsRow w.heap.size 159 1 o k (zs.map U32) ∧ Below w.heap.size w wr) (fun _ _ i _ => n - (intOf i).toNat)
 case atStart => exact ⟨0, 0, by omega, rfl, rfl, by omega, [], rfl, Digs.nil, rfl, World.ownsRow_nil _ _ _ _, Below.refl _ _⟩
 case round =>
  obtain ⟨k, q, hk, rfl, rfl, hq, zs, hzl, hzd, hv, hown, hbl⟩ := hrel
  have HV := hid hv
  have HL := hid hzl
  have HD := hid hzd
  have hxk := HX.out k
  have hyk := HY.out k
  have HB := hid hbl
  have hbs := hbl.size
  clear hv hzl hzd hbl
  by_cases h1 : k < n
  ·obtain ⟨b, o, rfl, hb, hcell⟩ := HXC.out (by omega)
   have hcx := (HB.out.cell (p := ⟨b, o + k, none⟩) hb).trans (hcell k h1)
   clear hcell
   by_cases h2 : k < n'
   ·obtain ⟨b', o', rfl, hb', hcell⟩ := HYC.out (by omega)
    have hcy' := (HB.out.cell (p := ⟨b', o' + k, none⟩) hb').trans (hcell k h2)
    clear hcell
    have hdig := sub_digit (xs.getD k 0) (ys.getD k 0) q hxk hyk hq
    obtain ⟨d, q', hd, hq', he, hd1, hd2⟩ := hdig
    have hst := hid (sub_step (xs := xs) (ys := ys) HL.out HV.out he)
    have HD1 := hid hd1
    have HD2 := hid hd2
    clear he hd1 hd2
    generalize xs.getD k 0 = x at *
    generalize ys.getD k 0 = y at *
    go_wp2_with (at_builtin; refine wpList_append_own _ rfl _ _ 29 rfl (w.heap.size) 159 i0 (.int .u32 0) 1 4 Tryz.underlying29 hi hz0 hz1 hz2 rfl (by decide) _ _ _ rfl (hown.alloc _) ⟨_, 0, none⟩ 1 1 [(.int .u32 ((-(q : Int) + x - y) % 4294967296))] rfl rfl (cell_one_new _ _ _) (by intro u hu; simp at hu; subst hu; rfl) (by unfold maxLen; omega) (by omega) (by simp; omega) ?_)
    intro v' w1 hown' hgrow _
    have hbl' := hid (push_below HB.out (by omega) hown hgrow)
    clear hown hgrow hcx
    rw [HD1.out, map_snoc] at hown'
    go_wp2
    rw [HD2.out]
    go_roundw
    case rel => exact ⟨k + 1, q', by omega, by go_num, rfl, by omega, zs ++ [d], by simp [HL.out], HD.out.append (Digs.cons (by omega) Digs.nil), hst.out, hown', hbl'.out⟩
    case measure => simp [intOf]; omega
   ·have h0 : ys.getD k 0 = 0 := getD_beyond (by have := HN'.out; omega)
    obtain ⟨d, q', hd, hq', he, hd1, hd2⟩ := sub_digit (xs.getD k 0) 0 q hxk (by omega) hq
    have hst := hid (sub_step (xs := xs) (ys := ys) HL.out HV.out (d := d) (q' := q') (by rw [h0]; exact he))
    rw [show (-(q : Int) + (xs.getD k 0 : Nat) - (0 : Nat)) = -(q : Int) + (xs.getD k 0 : Nat) from by omega] at hd1 hd2
    have HD1 := hid hd1
    have HD2 := hid hd2
    clear he hd1 hd2 h0 hyk
    generalize xs.getD k 0 = x at *
    go_wp2_with (at_builtin; refine wpList_append_own _ rfl _ _ 29 rfl (w.heap.size) 159 i0 (.int .u32 0) 1 4 Tryz.underlying29 hi hz0 hz1 hz2 rfl (by decide) _ _ _ rfl (hown.alloc _) ⟨_, 0, none⟩ 1 1 [(.int .u32 ((-(q : Int) + x) % 4294967296))] rfl rfl (cell_one_new _ _ _) (by intro u hu; simp at hu; subst hu; rfl) (by unfold maxLen; omega) (by omega) (by simp; omega) ?_)
    intro v' w1 hown' hgrow _
    have hbl' := hid (push_below HB.out (by omega) hown hgrow)
    clear hown hgrow hcx
    rw [HD1.out, map_snoc] at hown'
    go_wp2
    rw [HD2.out]
    go_roundw
    case rel => exact ⟨k + 1, q', by omega, by go_num, rfl, by omega, zs ++ [d], by simp [HL.out], HD.out.append (Digs.cons (by omega) Digs.nil), hst.out, hown', hbl'.out⟩
    case measure => simp [intOf]; omega
  ·have hfin : val zs = val xs - val ys := by
    have h1' := HV.out
    rw [vt_all xs k (by have := HN.out; omega), vt_all ys k (by have := HN'.out; omega)] at h1'
    exact sub_done HL.out HD.out h1' HLE.out hq
   have HF := hid hfin
   clear hfin
   obtain ⟨hr1, hr2, _, ra, rc, rfl⟩ := rd_of_owns hown HD.out
   have HR1 := hid hr1
   have HR2 := hid hr2
   clear hr1 hr2 hown
   go_wp2_with fail
   refine (ref_trim _ _ _ HR1.out).mono ?_
   rintro e w' ⟨a2, c2, rfl, hv2, ho2, k2, rfl⟩
   rw [HF.out] at hv2 ho2
   rw [HF.out]
   have HV2 := hid (hv2 _ HR1.out)
   have HO2 := hid ho2
   clear hv2 ho2
   go_wp2
   go_ret
   exact ⟨_, _, rfl, HV2.out, fun R hR => HO2.out R (HR2.out R hR), below_drewN HB.out⟩
end Go.Proofs.YtaajpliifdlokaaGreatDoor.Fr

namespace Go.Proofs.YtaajpliifdlokaaGreatDoor.Fr
open Go.RowKit
theorem sub_step' {zs xs ys : List Nat} {q k d q' : Nat} (hk : k < zs.length) (hz : zs.getD k 0 = 0) (h : val zs + vt ys k = vt xs k + 4294967296 ^ k * q) (he : d + ys.getD k 0 + q = xs.getD k 0 + 4294967296 * q') :
    val (zs.set k d) + vt ys (k + 1) = vt xs (k + 1) + 4294967296 ^ (k + 1) * q' := by
  have h1 := val_set (d := d) hk
  rw [hz, Nat.mul_zero, Nat.add_zero] at h1
  rw [h1, vt_succ, vt_succ, Nat.pow_succ]
  generalize 4294967296 ^ k = P at *
  have e2 : P * d + P * ys.getD k 0 + P * q = P * xs.getD k 0 + P * 4294967296 * q' := by
    rw [← Nat.mul_add, ← Nat.mul_add, he, Nat.mul_add, Nat.mul_assoc]
  omega
set_option maxRecDepth 100000 in
set_option maxHeartbeats 2000000 in
theorem frac_minus (u v : Value) (xs ys : List Nat) (w : World) (hx : Rd32 w u xs) (hy : Rd32 w v ys) (hlx : xs.length ≤ 1073741824) (hle : val ys ≤ val xs) (hll : ys.length ≤ xs.length) :
  Calls Tryz.prog 127 #[u, v] w (GivesD w (val xs - val ys)) := by
 have HAT := hid (fun k (hk : k ≤ 1073741824) W (hW : Below w.heap.size w W) => frac_at v ys k W (hy.kept hW) (by omega))
 obtain ⟨a, c, rfl, hc, hm, hxr, hxc⟩ := hx
 unfold maxLen at hm
 obtain ⟨i0, hi, hz0, hz1, hz2⟩ := info_parts info_u32
 obtain ⟨n, hn⟩ : ∃ n, n = xs.length := ⟨_, rfl⟩
 rw [← hn] at hc hxc hlx hll ⊢
 have HN := hid hn
 have HX := hid hxr
 have HXC := hid hxc
 have HLE := hid hle
 obtain ⟨a', c', rfl, hc', hm', hyr, -⟩ := hy
 have HYR := hid hyr
 generalize hyl : ys.length = n' at *
 have HYL := hid hyl
 clear hn hxr hxc hle hyr hyl
 go_enter Tryz.func127, Tryz.ntmps127
 go_wp2_with (at_make; refine wpList_make_full _ rfl _ _ 164 rfl w.heap.size 159 i0 (.int .u32 0) 1 Tryz.underlying164 hi hz0 hz1 _ _ _ _ n rfl rfl (by omega) (by omega) (by rw [hz2]; omega) (by unfold maxLen; omega) (Nat.le_refl _) ?_)
 intro w1 hown hgrow
 have hO := Own32.of_made hown
 have hb1 : Below w.heap.size w w1 := (Below.refl _ _).grown hgrow (Nat.le_refl _) (fun k h => by cases h)
 have HO := hid hO
 have HB1 := hid hb1
 clear hown hgrow hO hb1
 generalize hg : w.heap.size = g at *
 have HG := hid hg
 clear hg
 go_wp2
 go_loopw [6, 13] (fun cv iv wr => ∃ k q : Nat, k ≤ n ∧ iv = .int .i64 k ∧ cv = .int .u32 (q : Int) ∧ q ≤ 1 ∧ ∃ zs : List Nat, Own32 wr g n zs ∧ val zs + vt ys k = vt xs k + 4294967296 ^ k * q ∧ (∀ p, k ≤ p → zs.getD p 0 = 0) ∧ Below g w wr) (fun _ i _ => n - (intOf i).toNat)
 case atStart => exact ⟨0, 0, by omega, rfl, rfl, by omega, _, HO.out, by rw [val_replicate]; simp [vt], fun p _ => by simp only [List.getD, List.getElem?_replicate]; split <;> rfl, HB1.out⟩
 case round =>
  clear HO HB1
  obtain ⟨k, q, hk, rfl, rfl, hq, zs, hzo, hzv, hzz, hbl⟩ := hrel
  have HO := hid hzo
  have HV := hid hzv
  have HZ := hid hzz
  have HB := hid hbl
  clear hzo hzv hzz hbl
  by_cases h1 : k < n
  ·obtain ⟨b, o, rfl, hb, hcell⟩ := HXC.out (by omega)
   have hbg : b < g := by have := HG.out; omega
   have hcx := (HB.out.cell (p := ⟨b, o + k, none⟩) hbg).trans (hcell k h1)
   clear hcell
   have hxk := HX.out k
   have hyk := HYR.out k
   have HA := hid (fun W (hW : Below g w W) => HAT.out k (by omega) W hW)
   have hdig : (xs.getD k 0 + 4294967296 - ys.getD k 0 - q) % 4294967296 + ys.getD k 0 + q = xs.getD k 0 + 4294967296 * (if xs.getD k 0 < ys.getD k 0 + q then 1 else 0) := by split <;> omega
   obtain ⟨hcz, hfz⟩ := HO.out.2.2.2 k h1
   have hst := sub_step' (by rw [HO.out.1]; exact h1) (HZ.out k (Nat.le_refl _)) HV.out hdig
   have HS := hid (bits_Sub32 (xs.getD k 0) (ys.getD k 0) q hxk hyk hq)
   have hdl : (xs.getD k 0 + 4294967296 - ys.getD k 0 - q) % 4294967296 < 4294967296 := Nat.mod_lt _ (by omega)
   have hql : (if xs.getD k 0 < ys.getD k 0 + q then 1 else 0) ≤ 1 := by split <;> omega
   generalize (xs.getD k 0 + 4294967296 - ys.getD k 0 - q) % 4294967296 = d at *
   generalize (if xs.getD k 0 < ys.getD k 0 + q then 1 else 0) = q' at *
   have HST := hid hst
   clear hdig hst
   generalize xs.getD k 0 = x at *
   generalize ys.getD k 0 = y at *
   have hcx2 : ∀ v, (wr.setCell ⟨g, k, none⟩ v).cell? ⟨b, o + k, none⟩ = some (.int .u32 (x : Int)) := fun v => by
    rw [World.cell?_setCell_other _ _ _ _ (by intro e; have := congrArg Addr.block e; simp at this; omega)]
    exact hcx
   go_upto_region 6 with fail
   go_region_held3 (fun w' => w'.cell? ⟨b, o + k, none⟩ = some (.int .u32 (x : Int)))
    (first | exact hcx | exact hcx2 _ | go_keep)
    (first
     | (go_at_call 193; go_must (((with_reducible refine (HA.out _ (by have h := HB.out; repeat' (first | (with_reducible exact Below.refl _ _) | (with_reducible assumption) | (with_reducible refine below_drewN ?_) | (with_reducible refine Below.alloc ?_ ?_ _) | (with_reducible refine Below.drew ?_) | (with_reducible refine Below.setCell ?_ ?_ _) | (with_reducible refine Below.trans ?_ (Below.mono (by with_reducible assumption) ?_)) | go_size))).mono ?_); rintro e w5 ⟨rfl, rfl⟩)))
     | (go_at_call 195; go_must (((with_reducible refine (HS.out _).mono ?_); rintro e w5 ⟨rfl, rfl⟩))))
   all_goals
    have HO2 := hid (HO.out.set h1 hdl)
    clear hcx hcz hfz hcx2
    go_wp2
    go_roundw
    case rel => exact ⟨k + 1, q', by omega, by go_num, rfl, hql, zs.set k d, HO2.out, HST.out, fun p hp => by rw [getD_set_other (by omega)]; exact HZ.out p (by omega), by have h := HB.out; repeat' (first | (with_reducible exact Below.refl _ _) | (with_reducible assumption) | (with_reducible refine below_drewN ?_) | (with_reducible refine Below.alloc ?_ ?_ _) | (with_reducible refine Below.drew ?_) | (with_reducible refine Below.setCell ?_ ?_ _) | (with_reducible refine Below.trans ?_ (Below.mono (by with_reducible assumption) ?_)) | go_size)⟩
    case measure => simp [intOf]; omega
  ·have hfin : val zs = val xs - val ys := by
    have h1' := HV.out
    rw [vt_all xs k (by have := HN.out; omega), vt_all ys k (by have := HYL.out; omega)] at h1'
    exact sub_done (by rw [HO.out.1]; omega) HO.out.2.1 h1' HLE.out hq
   have HF := hid hfin
   have hgl := HG.out
   clear hfin
   go_wp2_with fail
   refine (frac_trimmed _ _ _ (HO.out.rd (Nat.le_refl _) (by unfold maxLen; omega))).mono ?_
   rintro e w' ⟨a2, c2, rfl, hv2, ho2, k2, rfl⟩
   rw [HF.out] at hv2 ho2
   rw [HF.out]
   have HV2 := hid (hv2 _ (HO.out.rd (Nat.le_refl _) (by unfold maxLen; omega)))
   have HO2 := hid ho2
   clear hv2 ho2
   go_wp2
   go_ret
   exact ⟨_, _, rfl, HV2.out, fun R hR => HO2.out R (Off.of_lt (by omega)), by rw [hgl]; exact below_drewN HB.out⟩
end Go.Proofs.YtaajpliifdlokaaGreatDoor.Fr

namespace Go.Proofs.YtaajpliifdlokaaGreatDoor.Fr
open Go.RowKit
set_option maxRecDepth 100000 in
set_option maxHeartbeats 2000000 in
theorem frac_plusA (u v : Value) (xs ys : List Nat) (w : World) (hx : Rd32 w u xs) (hy : Rd32 w v ys) (hlx : xs.length ≤ 1073741824) (hly : ys.length ≤ 1073741824) (h : xs.length < ys.length) :
  Calls Tryz.prog 126 #[u, v] w (GivesD w (val xs + val ys)) := by
 have HAX := hid (fun k (hk : k ≤ 1073741824) W (hW : Below w.heap.size w W) => frac_at u xs k W (hx.kept hW) (by omega))
 have HAY := hid (fun k (hk : k ≤ 1073741824) W (hW : Below w.heap.size w W) => frac_at v ys k W (hy.kept hW) (by omega))
 obtain ⟨a, c, rfl, hc, hm, hxr, hxc⟩ := hx
 obtain ⟨a', c', rfl, hc', hm', hyr, hyc⟩ := hy
 unfold maxLen at hm hm'
 obtain ⟨i0, hi, hz0, hz1, hz2⟩ := info_parts info_u32
 obtain ⟨n, hn⟩ : ∃ n, n = xs.length := ⟨_, rfl⟩
 obtain ⟨n', hn'⟩ : ∃ n, n = ys.length := ⟨_, rfl⟩
 rw [← hn] at hc hlx HAX h ⊢
 rw [← hn'] at hc' hly HAY h ⊢
 have HN := hid hn
 have HN' := hid hn'
 have HX := hid hxr
 have HY := hid hyr
 clear hn hn' hxr hyr hxc hyc
 go_enter Tryz.func126, Tryz.ntmps126
 go_wp2_with (at_make; refine wpList_make_own _ rfl _ _ 164 rfl w.heap.size 159 i0 (.int .u32 0) 1 Tryz.underlying164 hi hz0 hz1 .i64 .i64 _ (n' + 1) rfl rfl rfl (by rw [hz2]; omega) (by unfold maxLen; omega) (Nat.le_refl _) ?_; intro w1 hown1 hgrow1)
 have hb1 : Below w.heap.size w w1 := (Below.refl _ _).grown hgrow1 (Nat.le_refl _) (fun k hk => by cases hk)
 have HB1 := hid hb1
 clear hb1 hgrow1
 go_wp2_with fail
 go_loopw [5, 6, 21] (fun o cv i wr => ∃ k c : Nat, k ≤ n' ∧ i = .int .i64 k ∧ cv = .int .u32 (c : Int) ∧ c ≤ 1 ∧ AddRel w xs ys o cv i wr k c) (fun _ _ i _ => n' - (intOf i).toNat)
 case atStart => exact ⟨0, 0, by omega, rfl, rfl, by omega, [], rfl, Digs.nil, rfl, hown1, HB1.out⟩
 case round =>
  clear hown1 HB1
  obtain ⟨k, cy, hk, rfl, rfl, hcy, zs, hzl, hzd, hv, hown, hbl⟩ := hrel
  have HV := hid hv
  have HL := hid hzl
  have HD := hid hzd
  have HB := hid hbl
  have hbs := hbl.size
  clear hv hzl hzd hbl
  by_cases h1 : k < n'
  ·have hxk := HX.out k
   have hyk := HY.out k
   have HA1 := hid (fun W (hW : Below w.heap.size w W) => HAX.out k (by omega) W hW)
   have HA2 := hid (fun W (hW : Below w.heap.size w W) => HAY.out k (by omega) W hW)
   have HST := hid (add_step (xs := xs) (ys := ys) HL.out HV.out)
   have HS := hid (bits_Add32 (xs.getD k 0) (ys.getD k 0) cy hxk hyk hcy)
   have e1 : cy + xs.getD k 0 + ys.getD k 0 = xs.getD k 0 + ys.getD k 0 + cy := by omega
   rw [e1] at HST
   have hd1 : (xs.getD k 0 + ys.getD k 0 + cy) % 4294967296 < 4294967296 := Nat.mod_lt _ (by omega)
   have hd2 : (xs.getD k 0 + ys.getD k 0 + cy) / 4294967296 ≤ 1 := by omega
   generalize (xs.getD k 0 + ys.getD k 0 + cy) % 4294967296 = d at *
   generalize (xs.getD k 0 + ys.getD k 0 + cy) / 4294967296 = q at *
   clear e1
   generalize xs.getD k 0 = x at *
   generalize ys.getD k 0 = y at *
   have HOWN := hid hown
   clear hown
   go_wp2_with fail
   with_reducible refine (HA1.out _ HB.out).mono ?_
   rintro e w2 ⟨rfl, rfl⟩
   go_wp2_with fail
   with_reducible refine (HA2.out _ HB.out).mono ?_
   rintro e w2 ⟨rfl, rfl⟩
   go_wp2_with fail
   with_reducible refine (HS.out _).mono ?_
   rintro e w2 ⟨rfl, rfl⟩
   have hown := HOWN.out
   go_wp2_with (at_builtin; refine wpList_append_own _ rfl _ _ 164 rfl (w.heap.size) 159 i0 (.int .u32 0) 1 4 Tryz.underlying164 hi hz0 hz1 hz2 rfl (by decide) _ _ _ rfl (hown.alloc _) ⟨_, 0, none⟩ 1 1 [(.int .u32 (d : Int))] rfl rfl (cell_one_new _ _ _) (by intro u hu; simp at hu; subst hu; rfl) (by unfold maxLen; omega) (by omega) (by simp; omega) ?_)
   intro v' w1 hown' hgrow _
   have hbl' := hid (push_below HB.out (by omega) hown hgrow)
   clear hown hgrow
   rw [map_snoc] at hown'
   go_wp2
   go_roundw
   case rel => exact ⟨k + 1, q, by omega, by go_num, rfl, hd2, zs ++ [d], by simp [HL.out], HD.out.append (Digs.cons hd1 Digs.nil), HST.out, hown', hbl'.out⟩
   case measure => simp [intOf]; omega
  ·go_wp2_with (at_builtin; refine wpList_append_own _ rfl _ _ 164 rfl (w.heap.size) 159 i0 (.int .u32 0) 1 4 Tryz.underlying164 hi hz0 hz1 hz2 rfl (by decide) _ _ _ rfl (hown.alloc _) ⟨_, 0, none⟩ 1 1 [(.int .u32 (cy : Int))] rfl rfl (cell_one_new _ _ _) (by intro u hu; simp at hu; subst hu; rfl) (by unfold maxLen; omega) (by omega) (by simp; omega) ?_)
   intro v' w1 hown' hgrow _
   have hbl' := hid (push_below HB.out (by omega) hown hgrow)
   clear hown hgrow
   rw [map_snoc] at hown'
   have hfin : val (zs ++ [cy]) = val xs + val ys := by rw [val_snoc, HL.out, HV.out, vt_all xs k (by have := HN.out; omega), vt_all ys k (by have := HN'.out; omega)]
   have HF := hid hfin
   obtain ⟨hr1, hr2, _, ra, rc, rfl⟩ := rd_of_owns hown' (HD.out.append (Digs.cons (by omega) Digs.nil))
   have HR1 := hid hr1
   have HR2 := hid hr2
   clear hr1 hr2 hown' hfin
   go_wp2_with fail
   refine (frac_trimmed _ _ _ HR1.out).mono ?_
   rintro e w' ⟨a2, c2, rfl, hv2, ho2, k2, rfl⟩
   rw [HF.out] at hv2 ho2
   rw [HF.out]
   have HV2 := hid (hv2 _ HR1.out)
   have HO2 := hid ho2
   clear hv2 ho2
   go_wp2
   go_ret
   exact ⟨_, _, rfl, HV2.out, fun R hR => HO2.out R (HR2.out R hR), below_drewN hbl'.out⟩
set_option maxRecDepth 100000 in
set_option maxHeartbeats 2000000 in
theorem frac_plusB (u v : Value) (xs ys : List Nat) (w : World) (hx : Rd32 w u xs) (hy : Rd32 w v ys) (hlx : xs.length ≤ 1073741824) (hly : ys.length ≤ 1073741824) (h : ¬ xs.length < ys.length) :
  Calls Tryz.prog 126 #[u, v] w (GivesD w (val xs + val ys)) := by
 have HAX := hid (fun k (hk : k ≤ 1073741824) W (hW : Below w.heap.size w W) => frac_at u xs k W (hx.kept hW) (by omega))
 have HAY := hid (fun k (hk : k ≤ 1073741824) W (hW : Below w.heap.size w W) => frac_at v ys k W (hy.kept hW) (by omega))
 obtain ⟨a, c, rfl, hc, hm, hxr, hxc⟩ := hx
 obtain ⟨a', c', rfl, hc', hm', hyr, hyc⟩ := hy
 unfold maxLen at hm hm'
 obtain ⟨i0, hi, hz0, hz1, hz2⟩ := info_parts info_u32
 obtain ⟨n, hn⟩ : ∃ n, n = xs.length := ⟨_, rfl⟩
 obtain ⟨n', hn'⟩ : ∃ n, n = ys.length := ⟨_, rfl⟩
 rw [← hn] at hc hlx HAX h ⊢
 rw [← hn'] at hc' hly HAY h ⊢
 have HN := hid hn
 have HN' := hid hn'
 have HX := hid hxr
 have HY := hid hyr
 clear hn hn' hxr hyr hxc hyc
 go_enter Tryz.func126, Tryz.ntmps126
 go_wp2_with (at_make; refine wpList_make_own _ rfl _ _ 164 rfl w.heap.size 159 i0 (.int .u32 0) 1 Tryz.underlying164 hi hz0 hz1 .i64 .i64 _ (n + 1) rfl rfl rfl (by rw [hz2]; omega) (by unfold maxLen; omega) (Nat.le_refl _) ?_; intro w1 hown1 hgrow1)
 have hb1 : Below w.heap.size w w1 := (Below.refl _ _).grown hgrow1 (Nat.le_refl _) (fun k hk => by cases hk)
 have HB1 := hid hb1
 clear hb1 hgrow1
 go_wp2_with fail
 go_loopw [5, 6, 21] (fun o cv i wr => ∃ k c : Nat, k ≤ n ∧ i = .int .i64 k ∧ cv = .int .u32 (c : Int) ∧ c ≤ 1 ∧ AddRel w xs ys o cv i wr k c) (fun _ _ i _ => n - (intOf i).toNat)
 case atStart => exact ⟨0, 0, by omega, rfl, rfl, by omega, [], rfl, Digs.nil, rfl, hown1, HB1.out⟩
 case round =>
  clear hown1 HB1
  obtain ⟨k, cy, hk, rfl, rfl, hcy, zs, hzl, hzd, hv, hown, hbl⟩ := hrel
  have HV := hid hv
  have HL := hid hzl
  have HD := hid hzd
  have HB := hid hbl
  have hbs := hbl.size
  clear hv hzl hzd hbl
  by_cases h1 : k < n
  ·have hxk := HX.out k
   have hyk := HY.out k
   have HA1 := hid (fun W (hW : Below w.heap.size w W) => HAX.out k (by omega) W hW)
   have HA2 := hid (fun W (hW : Below w.heap.size w W) => HAY.out k (by omega) W hW)
   have HST := hid (add_step (xs := xs) (ys := ys) HL.out HV.out)
   have HS := hid (bits_Add32 (xs.getD k 0) (ys.getD k 0) cy hxk hyk hcy)
   have e1 : cy + xs.getD k 0 + ys.getD k 0 = xs.getD k 0 + ys.getD k 0 + cy := by omega
   rw [e1] at HST
   have hd1 : (xs.getD k 0 + ys.getD k 0 + cy) % 4294967296 < 4294967296 := Nat.mod_lt _ (by omega)
   have hd2 : (xs.getD k 0 + ys.getD k 0 + cy) / 4294967296 ≤ 1 := by omega
   generalize (xs.getD k 0 + ys.getD k 0 + cy) % 4294967296 = d at *
   generalize (xs.getD k 0 + ys.getD k 0 + cy) / 4294967296 = q at *
   clear e1
   generalize xs.getD k 0 = x at *
   generalize ys.getD k 0 = y at *
   have HOWN := hid hown
   clear hown
   go_wp2_with fail
   with_reducible refine (HA1.out _ HB.out).mono ?_
   rintro e w2 ⟨rfl, rfl⟩
   go_wp2_with fail
   with_reducible refine (HA2.out _ HB.out).mono ?_
   rintro e w2 ⟨rfl, rfl⟩
   go_wp2_with fail
   with_reducible refine (HS.out _).mono ?_
   rintro e w2 ⟨rfl, rfl⟩
   have hown := HOWN.out
   go_wp2_with (at_builtin; refine wpList_append_own _ rfl _ _ 164 rfl (w.heap.size) 159 i0 (.int .u32 0) 1 4 Tryz.underlying164 hi hz0 hz1 hz2 rfl (by decide) _ _ _ rfl (hown.alloc _) ⟨_, 0, none⟩ 1 1 [(.int .u32 (d : Int))] rfl rfl (cell_one_new _ _ _) (by intro u hu; simp at hu; subst hu; rfl) (by unfold maxLen; omega) (by omega) (by simp; omega) ?_)
   intro v' w1 hown' hgrow _
   have hbl' := hid (push_below HB.out (by omega) hown hgrow)
   clear hown hgrow
   rw [map_snoc] at hown'
   go_wp2
   go_roundw
   case rel => exact ⟨k + 1, q, by omega, by go_num, rfl, hd2, zs ++ [d], by simp [HL.out], HD.out.append (Digs.cons hd1 Digs.nil), HST.out, hown', hbl'.out⟩
   case measure => simp [intOf]; omega
  ·go_wp2_with (at_builtin; refine wpList_append_own _ rfl _ _ 164 rfl (w.heap.size) 159 i0 (.int .u32 0) 1 4 Tryz.underlying164 hi hz0 hz1 hz2 rfl (by decide) _ _ _ rfl (hown.alloc _) ⟨_, 0, none⟩ 1 1 [(.int .u32 (cy : Int))] rfl rfl (cell_one_new _ _ _) (by intro u hu; simp at hu; subst hu; rfl) (by unfold maxLen; omega) (by omega) (by simp; omega) ?_)
   intro v' w1 hown' hgrow _
   have hbl' := hid (push_below HB.out (by omega) hown hgrow)
   clear hown hgrow
   rw [map_snoc] at hown'
   have hfin : val (zs ++ [cy]) = val xs + val ys := by rw [val_snoc, HL.out, HV.out, vt_all xs k (by have := HN.out; omega), vt_all ys k (by have := HN'.out; omega)]
   have HF := hid hfin
   obtain ⟨hr1, hr2, _, ra, rc, rfl⟩ := rd_of_owns hown' (HD.out.append (Digs.cons (by omega) Digs.nil))
   have HR1 := hid hr1
   have HR2 := hid hr2
   clear hr1 hr2 hown' hfin
   go_wp2_with fail
   refine (frac_trimmed _ _ _ HR1.out).mono ?_
   rintro e w' ⟨a2, c2, rfl, hv2, ho2, k2, rfl⟩
   rw [HF.out] at hv2 ho2
   rw [HF.out]
   have HV2 := hid (hv2 _ HR1.out)
   have HO2 := hid ho2
   clear hv2 ho2
   go_wp2
   go_ret
   exact ⟨_, _, rfl, HV2.out, fun R hR => HO2.out R (HR2.out R hR), below_drewN hbl'.out⟩
theorem frac_plus (u v : Value) (xs ys : List Nat) (w : World) (hx : Rd32 w u xs) (hy : Rd32 w v ys) (hlx : xs.length ≤ 1073741824) (hly : ys.length ≤ 1073741824) :
    Calls Tryz.prog 126 #[u, v] w (GivesD w (val xs + val ys)) := by
  by_cases h : xs.length < ys.length
  · exact frac_plusA u v xs ys w hx hy hlx hly h
  · exact frac_plusB u v xs ys w hx hy hlx hly h
end Go.Proofs.YtaajpliifdlokaaGreatDoor.Fr

namespace Go.Proofs.YtaajpliifdlokaaGreatDoor.Fr
open Go.RowKit
def HoldsZ (us : List Value) (B : Nat) (w : World) (v : Value) (n : Nat) : Prop :=
  ∃ a c, v = .slice a (dig n).length c ∧ Rd32 w (.slice a (dig n).length c) (dig n) ∧ (∀ R, R < B → (∀ u ∈ us, Off R u) → Off R (.slice a (dig n).length c))
theorem HoldsZ.kept {us : List Value} {B n : Nat} {w w' : World} {v : Value} (h : HoldsZ us B w v n) (hb : Below w.heap.size w w') : HoldsZ us B w' v n := by
  obtain ⟨a, c, e, h1, h2⟩ := h
  exact ⟨a, c, e, h1.kept hb, h2⟩
theorem HoldsZ.rd {us : List Value} {B n : Nat} {w : World} {v : Value} (h : HoldsZ us B w v n) : Rd32 w v (dig n) := by
  obtain ⟨a, c, rfl, h1, h2⟩ := h
  exact h1
theorem HoldsZ.head {us : List Value} {B n : Nat} {w : World} {v : Value} (h : HoldsZ us B w v n) (hn : 0 < n) :
    ∃ b o L c, v = .slice (some ⟨b, o, none⟩) L c ∧ 0 < L ∧ w.cell? ⟨b, o, none⟩ = some (.int .u32 ((n % 4294967296 : Nat) : Int)) := by
  obtain ⟨a, c, rfl, h1, h2⟩ := h
  obtain ⟨a', c', e, h3, h4, h5, h6⟩ := h1
  obtain ⟨rfl, _, rfl⟩ := Value.slice.inj e
  obtain ⟨b, o, rfl, h7, h8⟩ := h6 (dig_length_pos.2 hn)
  refine ⟨b, o, _, _, rfl, dig_length_pos.2 hn, ?_⟩
  have := h8 0 (dig_length_pos.2 hn)
  rw [dig_getD_zero] at this
  exact this
theorem HoldsZ.len {us : List Value} {B n : Nat} {w : World} {v : Value} (h : HoldsZ us B w v n) : ∃ p L c, v = .slice p L c ∧ (0 < L ↔ 0 < n) := by
  obtain ⟨a, c, rfl, h1, h2⟩ := h
  exact ⟨_, _, _, rfl, dig_length_pos⟩
theorem HoldsZ.of_gives {us : List Value} {B n : Nat} {w w1 : World} {a : Option Addr} {c : Nat} (hB : B ≤ w.heap.size) (h : Rd32 w1 (.slice a (dig n).length c) (dig n)) (ho : ∀ R, R < w.heap.size → Off R (.slice a (dig n).length c)) :
    HoldsZ us B w1 (.slice a (dig n).length c) n := ⟨a, c, rfl, h, fun R hR _ => ho R (by omega)⟩
def GivesS (us : List Value) (w : World) (n : Nat) (e : Ending) (w' : World) : Prop := ∃ v, e = .returned v ∧ HoldsZ us w.heap.size w' v n ∧ Below w.heap.size w w'
theorem Rd32.holds {w : World} {v : Value} {n : Nat} (us : List Value) (B : Nat) (h : Rd32 w v (dig n)) (hu : v ∈ us) : HoldsZ us B w v n := by
  have h' := h
  obtain ⟨a, c, rfl, _⟩ := h
  exact ⟨a, c, rfl, h', fun R _ h => h _ hu⟩
end Go.Proofs.YtaajpliifdlokaaGreatDoor.Fr
