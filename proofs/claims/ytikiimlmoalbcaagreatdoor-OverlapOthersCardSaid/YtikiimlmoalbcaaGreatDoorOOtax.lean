/- Contracts of the reference's sum and difference of words. Contracts of words.minus and words.plus. Contract of words.plus. Contracts of fraction's product, opposite, sum. -/
import Derived.Test.YtikiimlmoalbcaaGreatDoorOOtas
import Derived.Deep.Cut
import Derived.Deep.RegionHeld3
import Derived.Test.YtikiimlmoalbcaaGreatDoorOOtaw
import Derived.Test.YtikiimlmoalbcaaGreatDoorOOtac
set_option linter.unusedVariables false
set_option linter.unusedSimpArgs false
namespace Go.Proofs.YtikiimlmoalbcaaGreatDoor.Fr
open Go.RowKit
def AddRel (w : World) (xs ys : List Nat) (o cv i : Value) (wr : World) (k c : Nat) : Prop :=
  ∃ zs : List Nat, zs.length = k ∧ Digs zs ∧ val zs + 4294967296 ^ k * c = vt xs k + vt ys k ∧ wr.ownsRow w.heap.size 132 1 o k (zs.map U32) ∧ Below w.heap.size w wr
set_option maxHeartbeats 1000000 in
theorem ref_sub (u v : Value) (xs ys : List Nat) (w : World) (hx : Rd32 w u xs) (hy : Rd32 w v ys) (hlx : xs.length ≤ 1073741824) (hle : val ys ≤ val xs) (hll : ys.length ≤ xs.length) :
  Calls Tryz.prog 123 #[u, v] w (GivesD w (val xs - val ys)) := by
 obtain ⟨a, c, rfl, hc, hm, hxr, hxc⟩ := hx
 obtain ⟨a', c', rfl, hc', hm', hyr, hyc⟩ := hy
 unfold maxLen at hm hm'
 obtain ⟨i0, hi, hz0, hz1, hz2⟩ := info_parts info_u32
 obtain ⟨n, hn⟩ : ∃ n, n = xs.length := ⟨_, rfl⟩
 obtain ⟨n', hn'⟩ : ∃ n, n = ys.length := ⟨_, rfl⟩
 rw [← hn] at hc hxc hlx hll ⊢
 rw [← hn'] at hc' hyc hll ⊢
 have HN := hid hn
 have HN' := hid hn'
 have HX := hid hxr
 have HY := hid hyr
 have HXC := hid hxc
 have HYC := hid hyc
 have HLE := hid hle
 clear hn hn' hxr hyr hxc hyc hle
 go_enter Tryz.func123, Tryz.ntmps123
 go_wp2
 go_loopw [5, 6, 7] (fun o cv i wr => ∃ k q : Nat, k ≤ n ∧ i = .int .i64 k ∧ cv = .int .i64 (-(q : Int)) ∧ q ≤ 1 ∧ ∃ zs : List Nat, zs.length = k ∧ Digs zs ∧ val zs + vt ys k = vt xs k + 4294967296 ^ k * q ∧ wr.ownsRow w.heap.size 132 1 o k (zs.map U32) ∧ Below w.heap.size w wr) (fun _ _ i _ => n - (intOf i).toNat)
 case atStart => exact ⟨0, 0, by omega, rfl, rfl, by omega, [], rfl, Digs.nil, rfl, World.ownsRow_nil _ _ _ _, Below.refl _ _⟩
 case round =>
  obtain ⟨k, q, hk, rfl, rfl, hq, zs, hzl, hzd, hv, hown, hbl⟩ := hrel
  have HV := hid hv
  have HL := hid hzl
  have HD := hid hzd
  have hxk := HX.out k
  have hyk := HY.out k
  have HB := hid hbl
  have hbs := hbl.size
  clear hv hzl hzd hbl
  by_cases h1 : k < n
  ·obtain ⟨b, o, rfl, hb, hcell⟩ := HXC.out (by omega)
   have hcx := (HB.out.cell (p := ⟨b, o + k, none⟩) hb).trans (hcell k h1)
   clear hcell
   by_cases h2 : k < n'
   ·obtain ⟨b', o', rfl, hb', hcell⟩ := HYC.out (by omega)
    have hcy' := (HB.out.cell (p := ⟨b', o' + k, none⟩) hb').trans (hcell k h2)
    clear hcell
    have hdig := sub_digit (xs.getD k 0) (ys.getD k 0) q hxk hyk hq
    obtain ⟨d, q', hd, hq', he, hd1, hd2⟩ := hdig
    have hst := hid (sub_step (xs := xs) (ys := ys) HL.out HV.out he)
    have HD1 := hid hd1
    have HD2 := hid hd2
    clear he hd1 hd2
    generalize xs.getD k 0 = x at *
    generalize ys.getD k 0 = y at *
    go_wp2_with (at_builtin; refine wpList_append_own _ rfl _ _ 41 rfl (w.heap.size) 132 i0 (.int .u32 0) 1 4 Tryz.underlying41 hi hz0 hz1 hz2 rfl (by decide) _ _ _ rfl (hown.alloc _) ⟨_, 0, none⟩ 1 1 [(.int .u32 ((-(q : Int) + x - y) % 4294967296))] rfl rfl (cell_one_new _ _ _) (by intro u hu; simp at hu; subst hu; rfl) (by unfold maxLen; omega) (by omega) (by simp; omega) ?_)
    intro v' w1 hown' hgrow _
    have hbl' := hid (push_below HB.out (by omega) hown hgrow)
    clear hown hgrow hcx
    rw [HD1.out, map_snoc] at hown'
    go_wp2
    rw [HD2.out]
    go_roundw
    case rel => exact ⟨k + 1, q', by omega, by go_num, rfl, by omega, zs ++ [d], by simp [HL.out], HD.out.append (Digs.cons (by omega) Digs.nil), hst.out, hown', hbl'.out⟩
    case measure => simp [intOf]; omega
   ·have h0 : ys.getD k 0 = 0 := getD_beyond (by have := HN'.out; omega)
    obtain ⟨d, q', hd, hq', he, hd1, hd2⟩ := sub_digit (xs.getD k 0) 0 q hxk (by omega) hq
    have hst := hid (sub_step (xs := xs) (ys := ys) HL.out HV.out (d := d) (q' := q') (by rw [h0]; exact he))
    rw [show (-(q : Int) + (xs.getD k 0 : Nat) - (0 : Nat)) = -(q : Int) + (xs.getD k 0 : Nat) from by omega] at hd1 hd2
    have HD1 := hid hd1
    have HD2 := hid hd2
    clear he hd1 hd2 h0 hyk
    generalize xs.getD k 0 = x at *
    go_wp2_with (at_builtin; refine wpList_append_own _ rfl _ _ 41 rfl (w.heap.size) 132 i0 (.int .u32 0) 1 4 Tryz.underlying41 hi hz0 hz1 hz2 rfl (by decide) _ _ _ rfl (hown.alloc _) ⟨_, 0, none⟩ 1 1 [(.int .u32 ((-(q : Int) + x) % 4294967296))] rfl rfl (cell_one_new _ _ _) (by intro u hu; simp at hu; subst hu; rfl) (by unfold maxLen; omega) (by omega) (by simp; omega) ?_)
    intro v' w1 hown' hgrow _
    have hbl' := hid (push_below HB.out (by omega) hown hgrow)
    clear hown hgrow hcx
    rw [HD1.out, map_snoc] at hown'
    go_wp2
    rw [HD2.out]
    go_roundw
    case rel => exact ⟨k + 1, q', by omega, by go_num, rfl, by omega, zs ++ [d], by simp [HL.out], HD.out.append (Digs.cons (by omega) Digs.nil), hst.out, hown', hbl'.out⟩
    case measure => simp [intOf]; omega
  ·have hfin : val zs = val xs - val ys := by
    have h1' := HV.out
    rw [vt_all xs k (by have := HN.out; omega), vt_all ys k (by have := HN'.out; omega)] at h1'
    exact sub_done HL.out HD.out h1' HLE.out hq
   have HF := hid hfin
   clear hfin
   obtain ⟨hr1, hr2, _, ra, rc, rfl⟩ := rd_of_owns hown HD.out
   have HR1 := hid hr1
   have HR2 := hid hr2
   clear hr1 hr2 hown
   go_wp2_with fail
   refine (ref_trim _ _ _ HR1.out).mono ?_
   rintro e w' ⟨a2, c2, rfl, hv2, ho2, k2, rfl⟩
   rw [HF.out] at hv2 ho2
   rw [HF.out]
   have HV2 := hid (hv2 _ HR1.out)
   have HO2 := hid ho2
   clear hv2 ho2
   go_wp2
   go_ret
   exact ⟨_, _, rfl, HV2.out, fun R hR => HO2.out R (HR2.out R hR), below_drewN HB.out⟩
end Go.Proofs.YtikiimlmoalbcaaGreatDoor.Fr

namespace Go.Proofs.YtikiimlmoalbcaaGreatDoor.Fr
open Go.RowKit
theorem sub_step' {zs xs ys : List Nat} {q k d q' : Nat} (hk : k < zs.length) (hz : zs.getD k 0 = 0) (h : val zs + vt ys k = vt xs k + 4294967296 ^ k * q) (he : d + ys.getD k 0 + q = xs.getD k 0 + 4294967296 * q') :
    val (zs.set k d) + vt ys (k + 1) = vt xs (k + 1) + 4294967296 ^ (k + 1) * q' := by
  have h1 := val_set (d := d) hk
  rw [hz, Nat.mul_zero, Nat.add_zero] at h1
  rw [h1, vt_succ, vt_succ, Nat.pow_succ]
  generalize 4294967296 ^ k = P at *
  have e2 : P * d + P * ys.getD k 0 + P * q = P * xs.getD k 0 + P * 4294967296 * q' := by
    rw [← Nat.mul_add, ← Nat.mul_add, he, Nat.mul_add, Nat.mul_assoc]
  omega
set_option maxRecDepth 100000 in
set_option maxHeartbeats 2000000 in
theorem frac_minus (u v : Value) (xs ys : List Nat) (w : World) (hx : Rd32 w u xs) (hy : Rd32 w v ys) (hlx : xs.length ≤ 1073741824) (hle : val ys ≤ val xs) (hll : ys.length ≤ xs.length) :
  Calls Tryz.prog 175 #[u, v] w (GivesD w (val xs - val ys)) := by
 have HAT := hid (fun k (hk : k ≤ 1073741824) W (hW : Below w.heap.size w W) => frac_at v ys k W (hy.kept hW) (by omega))
 obtain ⟨a, c, rfl, hc, hm, hxr, hxc⟩ := hx
 unfold maxLen at hm
 obtain ⟨i0, hi, hz0, hz1, hz2⟩ := info_parts info_u32
 obtain ⟨n, hn⟩ : ∃ n, n = xs.length := ⟨_, rfl⟩
 rw [← hn] at hc hxc hlx hll ⊢
 have HN := hid hn
 have HX := hid hxr
 have HXC := hid hxc
 have HLE := hid hle
 obtain ⟨a', c', rfl, hc', hm', hyr, -⟩ := hy
 have HYR := hid hyr
 generalize hyl : ys.length = n' at *
 have HYL := hid hyl
 clear hn hxr hxc hle hyr hyl
 go_enter Tryz.func175, Tryz.ntmps175
 go_wp2_with (at_make; refine wpList_make_full _ rfl _ _ 163 rfl w.heap.size 132 i0 (.int .u32 0) 1 Tryz.underlying163 hi hz0 hz1 _ _ _ _ n rfl rfl (by omega) (by omega) (by rw [hz2]; omega) (by unfold maxLen; omega) (Nat.le_refl _) ?_)
 intro w1 hown hgrow
 have hO := Own32.of_made hown
 have hb1 : Below w.heap.size w w1 := (Below.refl _ _).grown hgrow (Nat.le_refl _) (fun k h => by cases h)
 have HO := hid hO
 have HB1 := hid hb1
 clear hown hgrow hO hb1
 generalize hg : w.heap.size = g at *
 have HG := hid hg
 clear hg
 go_wp2
 go_loopw [6, 13] (fun cv iv wr => ∃ k q : Nat, k ≤ n ∧ iv = .int .i64 k ∧ cv = .int .u32 (q : Int) ∧ q ≤ 1 ∧ ∃ zs : List Nat, Own32 wr g n zs ∧ val zs + vt ys k = vt xs k + 4294967296 ^ k * q ∧ (∀ p, k ≤ p → zs.getD p 0 = 0) ∧ Below g w wr) (fun _ i _ => n - (intOf i).toNat)
 case atStart => exact ⟨0, 0, by omega, rfl, rfl, by omega, _, HO.out, by rw [val_replicate]; simp [vt], fun p _ => by simp only [List.getD, List.getElem?_replicate]; split <;> rfl, HB1.out⟩
 case round =>
  clear HO HB1
  obtain ⟨k, q, hk, rfl, rfl, hq, zs, hzo, hzv, hzz, hbl⟩ := hrel
  have HO := hid hzo
  have HV := hid hzv
  have HZ := hid hzz
  have HB := hid hbl
  clear hzo hzv hzz hbl
  by_cases h1 : k < n
  ·obtain ⟨b, o, rfl, hb, hcell⟩ := HXC.out (by omega)
   have hbg : b < g := by have := HG.out; omega
   have hcx := (HB.out.cell (p := ⟨b, o + k, none⟩) hbg).trans (hcell k h1)
   clear hcell
   have hxk := HX.out k
   have hyk := HYR.out k
   have HA := hid (fun W (hW : Below g w W) => HAT.out k (by omega) W hW)
   have hdig : (xs.getD k 0 + 4294967296 - ys.getD k 0 - q) % 4294967296 + ys.getD k 0 + q = xs.getD k 0 + 4294967296 * (if xs.getD k 0 < ys.getD k 0 + q then 1 else 0) := by split <;> omega
   obtain ⟨hcz, hfz⟩ := HO.out.2.2.2 k h1
   have hst := sub_step' (by rw [HO.out.1]; exact h1) (HZ.out k (Nat.le_refl _)) HV.out hdig
   have HS := hid (bits_Sub32 (xs.getD k 0) (ys.getD k 0) q hxk hyk hq)
   have hdl : (xs.getD k 0 + 4294967296 - ys.getD k 0 - q) % 4294967296 < 4294967296 := Nat.mod_lt _ (by omega)
   have hql : (if xs.getD k 0 < ys.getD k 0 + q then 1 else 0) ≤ 1 := by split <;> omega
   generalize (xs.getD k 0 + 4294967296 - ys.getD k 0 - q) % 4294967296 = d at *
   generalize (if xs.getD k 0 < ys.getD k 0 + q then 1 else 0) = q' at *
   have HST := hid hst
   clear hdig hst
   generalize xs.getD k 0 = x at *
   generalize ys.getD k 0 = y at *
   have hcx2 : ∀ v, (wr.setCell ⟨g, k, none⟩ v).cell? ⟨b, o + k, none⟩ = some (.int .u32 (x : Int)) := fun v => by
    rw [World.cell?_setCell_other _ _ _ _ (by intro e; have := congrArg Addr.block e; simp at this; omega)]
    exact hcx
   go_upto_region 6 with fail
   go_region_held3 (fun w' => w'.cell? ⟨b, o + k, none⟩ = some (.int .u32 (x : Int)))
    (first | exact hcx | exact hcx2 _ | go_keep)
    (first
     | (go_at_call 206; go_must (((with_reducible refine (HA.out _ (by have h := HB.out; repeat' (first | (with_reducible exact Below.refl _ _) | (with_reducible assumption) | (with_reducible refine below_drewN ?_) | (with_reducible refine Below.alloc ?_ ?_ _) | (with_reducible refine Below.drew ?_) | (with_reducible refine Below.setCell ?_ ?_ _) | (with_reducible refine Below.trans ?_ (Below.mono (by with_reducible assumption) ?_)) | go_size))).mono ?_); rintro e w5 ⟨rfl, rfl⟩)))
     | (go_at_call 211; go_must (((with_reducible refine (HS.out _).mono ?_); rintro e w5 ⟨rfl, rfl⟩))))
   all_goals
    have HO2 := hid (HO.out.set h1 hdl)
    clear hcx hcz hfz hcx2
    go_wp2
    go_roundw
    case rel => exact ⟨k + 1, q', by omega, by go_num, rfl, hql, zs.set k d, HO2.out, HST.out, fun p hp => by rw [getD_set_other (by omega)]; exact HZ.out p (by omega), by have h := HB.out; repeat' (first | (with_reducible exact Below.refl _ _) | (with_reducible assumption) | (with_reducible refine below_drewN ?_) | (with_reducible refine Below.alloc ?_ ?_ _) | (with_reducible refine Below.drew ?_) | (with_reducible refine Below.setCell ?_ ?_ _) | (with_reducible refine Below.trans ?_ (Below.mono (by with_reducible assumption) ?_)) | go_size)⟩
    case measure => simp [intOf]; omega
  ·have hfin : val zs = val xs - val ys := by
    have h1' := HV.out
    rw [vt_all xs k (by have := HN.out; omega), vt_all ys k (by have := HYL.out; omega)] at h1'
    exact sub_done (by rw [HO.out.1]; omega) HO.out.2.1 h1' HLE.out hq
   have HF := hid hfin
   have hgl := HG.out
   clear hfin
   go_wp2_with fail
   refine (frac_trimmed _ _ _ (HO.out.rd (Nat.le_refl _) (by unfold maxLen; omega))).mono ?_
   rintro e w' ⟨a2, c2, rfl, hv2, ho2, k2, rfl⟩
   rw [HF.out] at hv2 ho2
   rw [HF.out]
   have HV2 := hid (hv2 _ (HO.out.rd (Nat.le_refl _) (by unfold maxLen; omega)))
   have HO2 := hid ho2
   clear hv2 ho2
   go_wp2
   go_ret
   exact ⟨_, _, rfl, HV2.out, fun R hR => HO2.out R (Off.of_lt (by omega)), by rw [hgl]; exact below_drewN HB.out⟩
end Go.Proofs.YtikiimlmoalbcaaGreatDoor.Fr

namespace Go.Proofs.YtikiimlmoalbcaaGreatDoor.Fr
open Go.RowKit
set_option maxRecDepth 100000 in
set_option maxHeartbeats 2000000 in
theorem frac_plusA (u v : Value) (xs ys : List Nat) (w : World) (hx : Rd32 w u xs) (hy : Rd32 w v ys) (hlx : xs.length ≤ 1073741824) (hly : ys.length ≤ 1073741824) (h : xs.length < ys.length) :
  Calls Tryz.prog 174 #[u, v] w (GivesD w (val xs + val ys)) := by
 have HAX := hid (fun k (hk : k ≤ 1073741824) W (hW : Below w.heap.size w W) => frac_at u xs k W (hx.kept hW) (by omega))
 have HAY := hid (fun k (hk : k ≤ 1073741824) W (hW : Below w.heap.size w W) => frac_at v ys k W (hy.kept hW) (by omega))
 obtain ⟨a, c, rfl, hc, hm, hxr, hxc⟩ := hx
 obtain ⟨a', c', rfl, hc', hm', hyr, hyc⟩ := hy
 unfold maxLen at hm hm'
 obtain ⟨i0, hi, hz0, hz1, hz2⟩ := info_parts info_u32
 obtain ⟨n, hn⟩ : ∃ n, n = xs.length := ⟨_, rfl⟩
 obtain ⟨n', hn'⟩ : ∃ n, n = ys.length := ⟨_, rfl⟩
 rw [← hn] at hc hlx HAX h ⊢
 rw [← hn'] at hc' hly HAY h ⊢
 have HN := hid hn
 have HN' := hid hn'
 have HX := hid hxr
 have HY := hid hyr
 clear hn hn' hxr hyr hxc hyc
 go_enter Tryz.func174, Tryz.ntmps174
 go_wp2_with (at_make; refine wpList_make_own _ rfl _ _ 163 rfl w.heap.size 132 i0 (.int .u32 0) 1 Tryz.underlying163 hi hz0 hz1 .i64 .i64 _ (n' + 1) rfl rfl (by first | rfl | omega) (by rw [hz2]; omega) (by unfold maxLen; omega) (Nat.le_refl _) ?_; intro w1 hown1 hgrow1)
 have hb1 : Below w.heap.size w w1 := (Below.refl _ _).grown hgrow1 (Nat.le_refl _) (fun k hk => by cases hk)
 have HB1 := hid hb1
 clear hb1 hgrow1
 go_wp2_with fail
 go_loopw [5, 6, 21] (fun o cv i wr => ∃ k c : Nat, k ≤ n' ∧ i = .int .i64 k ∧ cv = .int .u32 (c : Int) ∧ c ≤ 1 ∧ AddRel w xs ys o cv i wr k c) (fun _ _ i _ => n' - (intOf i).toNat)
 case atStart => exact ⟨0, 0, by omega, rfl, rfl, by omega, [], rfl, Digs.nil, rfl, hown1, HB1.out⟩
 case round =>
  clear hown1 HB1
  obtain ⟨k, cy, hk, rfl, rfl, hcy, zs, hzl, hzd, hv, hown, hbl⟩ := hrel
  have HV := hid hv
  have HL := hid hzl
  have HD := hid hzd
  have HB := hid hbl
  have hbs := hbl.size
  clear hv hzl hzd hbl
  by_cases h1 : k < n'
  ·have hxk := HX.out k
   have hyk := HY.out k
   have HA1 := hid (fun W (hW : Below w.heap.size w W) => HAX.out k (by omega) W hW)
   have HA2 := hid (fun W (hW : Below w.heap.size w W) => HAY.out k (by omega) W hW)
   have HST := hid (add_step (xs := xs) (ys := ys) HL.out HV.out)
   have HS := hid (bits_Add32 (xs.getD k 0) (ys.getD k 0) cy hxk hyk hcy)
   have e1 : cy + xs.getD k 0 + ys.getD k 0 = xs.getD k 0 + ys.getD k 0 + cy := by omega
   rw [e1] at HST
   have hd1 : (xs.getD k 0 + ys.getD k 0 + cy) % 4294967296 < 4294967296 := Nat.mod_lt _ (by omega)
   have hd2 : (xs.getD k 0 + ys.getD k 0 + cy) / 4294967296 ≤ 1 := by omega
   generalize (xs.getD k 0 + ys.getD k 0 + cy) % 4294967296 = d at *
   generalize (xs.getD k 0 + ys.getD k 0 + cy) / 4294967296 = q at *
   clear e1
   generalize xs.getD k 0 = x at *
   generalize ys.getD k 0 = y at *
   have HOWN := hid hown
   clear hown
   go_wp2_with fail
   with_reducible refine (HA1.out _ HB.out).mono ?_
   rintro e w2 ⟨rfl, rfl⟩
   go_wp2_with fail
   with_reducible refine (HA2.out _ HB.out).mono ?_
   rintro e w2 ⟨rfl, rfl⟩
   go_wp2_with fail
   with_reducible refine (HS.out _).mono ?_
   rintro e w2 ⟨rfl, rfl⟩
   have hown := HOWN.out
   go_wp2_with (at_builtin; refine wpList_append_own _ rfl _ _ 163 rfl (w.heap.size) 132 i0 (.int .u32 0) 1 4 Tryz.underlying163 hi hz0 hz1 hz2 rfl (by decide) _ _ _ rfl (hown.alloc _) ⟨_, 0, none⟩ 1 1 [(.int .u32 (d : Int))] rfl rfl (cell_one_new _ _ _) (by intro u hu; simp at hu; subst hu; rfl) (by unfold maxLen; omega) (by omega) (by simp; omega) ?_)
   intro v' w1 hown' hgrow _
   have hbl' := hid (push_below HB.out (by omega) hown hgrow)
   clear hown hgrow
   rw [map_snoc] at hown'
   go_wp2
   go_roundw
   case rel => exact ⟨k + 1, q, by omega, by go_num, rfl, hd2, zs ++ [d], by simp [HL.out], HD.out.append (Digs.cons hd1 Digs.nil), HST.out, hown', hbl'.out⟩
   case measure => simp [intOf]; omega
  ·go_wp2_with (at_builtin; refine wpList_append_own _ rfl _ _ 163 rfl (w.heap.size) 132 i0 (.int .u32 0) 1 4 Tryz.underlying163 hi hz0 hz1 hz2 rfl (by decide) _ _ _ rfl (hown.alloc _) ⟨_, 0, none⟩ 1 1 [(.int .u32 (cy : Int))] rfl rfl (cell_one_new _ _ _) (by intro u hu; simp at hu; subst hu; rfl) (by unfold maxLen; omega) (by omega) (by simp; omega) ?_)
   intro v' w1 hown' hgrow _
   have hbl' := hid (push_below HB.out (by omega) hown hgrow)
   clear hown hgrow
   rw [map_snoc] at hown'
   have hfin : val (zs ++ [cy]) = val xs + val ys := by rw [val_snoc, HL.out, HV.out, vt_all xs k (by have := HN.out; omega), vt_all ys k (by have := HN'.out; omega)]
   have HF := hid hfin
   obtain ⟨hr1, hr2, _, ra, rc, rfl⟩ := rd_of_owns hown' (HD.out.append (Digs.cons (by omega) Digs.nil))
   have HR1 := hid hr1
   have HR2 := hid hr2
   clear hr1 hr2 hown' hfin
   go_wp2_with fail
   refine (frac_trimmed _ _ _ HR1.out).mono ?_
   rintro e w' ⟨a2, c2, rfl, hv2, ho2, k2, rfl⟩
   rw [HF.out] at hv2 ho2
   rw [HF.out]
   have HV2 := hid (hv2 _ HR1.out)
   have HO2 := hid ho2
   clear hv2 ho2
   go_wp2
   go_ret
   exact ⟨_, _, rfl, HV2.out, fun R hR => HO2.out R (HR2.out R hR), below_drewN hbl'.out⟩
set_option maxRecDepth 100000 in
set_option maxHeartbeats 2000000 in
theorem frac_plusB (u v : Value) (xs ys : List Nat) (w : World) (hx : Rd32 w u xs) (hy : Rd32 w v ys) (hlx : xs.length ≤ 1073741824) (hly : ys.length ≤ 1073741824) (h : ¬ xs.length < ys.length) :
  Calls Tryz.prog 174 #[u, v] w (GivesD w (val xs + val ys)) := by
 have HAX := hid (fun k (hk : k ≤ 1073741824) W (hW : Below w.heap.size w W) => frac_at u xs k W (hx.kept hW) (by omega))
 have HAY := hid (fun k (hk : k ≤ 1073741824) W (hW : Below w.heap.size w W) => frac_at v ys k W (hy.kept hW) (by omega))
 obtain ⟨a, c, rfl, hc, hm, hxr, hxc⟩ := hx
 obtain ⟨a', c', rfl, hc', hm', hyr, hyc⟩ := hy
 unfold maxLen at hm hm'
 obtain ⟨i0, hi, hz0, hz1, hz2⟩ := info_parts info_u32
 obtain ⟨n, hn⟩ : ∃ n, n = xs.length := ⟨_, rfl⟩
 obtain ⟨n', hn'⟩ : ∃ n, n = ys.length := ⟨_, rfl⟩
 rw [← hn] at hc hlx HAX h ⊢
 rw [← hn'] at hc' hly HAY h ⊢
 have HN := hid hn
 have HN' := hid hn'
 have HX := hid hxr
 have HY := hid hyr
 clear hn hn' hxr hyr hxc hyc
 go_enter Tryz.func174, Tryz.ntmps174
 go_wp2_with (at_make; refine wpList_make_own _ rfl _ _ 163 rfl w.heap.size 132 i0 (.int .u32 0) 1 Tryz.underlying163 hi hz0 hz1 .i64 .i64 _ (n + 1) rfl rfl (by first | rfl | omega) (by rw [hz2]; omega) (by unfold maxLen; omega) (Nat.le_refl _) ?_; intro w1 hown1 hgrow1)
 have hb1 : Below w.heap.size w w1 := (Below.refl _ _).grown hgrow1 (Nat.le_refl _) (fun k hk => by cases hk)
 have HB1 := hid hb1
 clear hb1 hgrow1
 go_wp2_with fail
 go_loopw [5, 6, 21] (fun o cv i wr => ∃ k c : Nat, k ≤ n ∧ i = .int .i64 k ∧ cv = .int .u32 (c : Int) ∧ c ≤ 1 ∧ AddRel w xs ys o cv i wr k c) (fun _ _ i _ => n - (intOf i).toNat)
 case atStart => exact ⟨0, 0, by omega, rfl, rfl, by omega, [], rfl, Digs.nil, rfl, hown1, HB1.out⟩
 case round =>
  clear hown1 HB1
  obtain ⟨k, cy, hk, rfl, rfl, hcy, zs, hzl, hzd, hv, hown, hbl⟩ := hrel
  have HV := hid hv
  have HL := hid hzl
  have HD := hid hzd
  have HB := hid hbl
  have hbs := hbl.size
  clear hv hzl hzd hbl
  by_cases h1 : k < n
  ·have hxk := HX.out k
   have hyk := HY.out k
   have HA1 := hid (fun W (hW : Below w.heap.size w W) => HAX.out k (by omega) W hW)
   have HA2 := hid (fun W (hW : Below w.heap.size w W) => HAY.out k (by omega) W hW)
   have HST := hid (add_step (xs := xs) (ys := ys) HL.out HV.out)
   have HS := hid (bits_Add32 (xs.getD k 0) (ys.getD k 0) cy hxk hyk hcy)
   have e1 : cy + xs.getD k 0 + ys.getD k 0 = xs.getD k 0 + ys.getD k 0 + cy := by omega
   rw [e1] at HST
   have hd1 : (xs.getD k 0 + ys.getD k 0 + cy) % 4294967296 < 4294967296 := Nat.mod_lt _ (by omega)
   have hd2 : (xs.getD k 0 + ys.getD k 0 + cy) / 4294967296 ≤ 1 := by omega
   generalize (xs.getD k 0 + ys.getD k 0 + cy) % 4294967296 = d at *
   generalize (xs.getD k 0 + ys.getD k 0 + cy) / 4294967296 = q at *
   clear e1
   generalize xs.getD k 0 = x at *
   generalize ys.getD k 0 = y at *
   have HOWN := hid hown
   clear hown
   go_wp2_with fail
   with_reducible refine (HA1.out _ HB.out).mono ?_
   rintro e w2 ⟨rfl, rfl⟩
   go_wp2_with fail
   with_reducible refine (HA2.out _ HB.out).mono ?_
   rintro e w2 ⟨rfl, rfl⟩
   go_wp2_with fail
   with_reducible refine (HS.out _).mono ?_
   rintro e w2 ⟨rfl, rfl⟩
   have hown := HOWN.out
   go_wp2_with (at_builtin; refine wpList_append_own _ rfl _ _ 163 rfl (w.heap.size) 132 i0 (.int .u32 0) 1 4 Tryz.underlying163 hi hz0 hz1 hz2 rfl (by decide) _ _ _ rfl (hown.alloc _) ⟨_, 0, none⟩ 1 1 [(.int .u32 (d : Int))] rfl rfl (cell_one_new _ _ _) (by intro u hu; simp at hu; subst hu; rfl) (by unfold maxLen; omega) (by omega) (by simp; omega) ?_)
   intro v' w1 hown' hgrow _
   have hbl' := hid (push_below HB.out (by omega) hown hgrow)
   clear hown hgrow
   rw [map_snoc] at hown'
   go_wp2
   go_roundw
   case rel => exact ⟨k + 1, q, by omega, by go_num, rfl, hd2, zs ++ [d], by simp [HL.out], HD.out.append (Digs.cons hd1 Digs.nil), HST.out, hown', hbl'.out⟩
   case measure => simp [intOf]; omega
  ·go_wp2_with (at_builtin; refine wpList_append_own _ rfl _ _ 163 rfl (w.heap.size) 132 i0 (.int .u32 0) 1 4 Tryz.underlying163 hi hz0 hz1 hz2 rfl (by decide) _ _ _ rfl (hown.alloc _) ⟨_, 0, none⟩ 1 1 [(.int .u32 (cy : Int))] rfl rfl (cell_one_new _ _ _) (by intro u hu; simp at hu; subst hu; rfl) (by unfold maxLen; omega) (by omega) (by simp; omega) ?_)
   intro v' w1 hown' hgrow _
   have hbl' := hid (push_below HB.out (by omega) hown hgrow)
   clear hown hgrow
   rw [map_snoc] at hown'
   have hfin : val (zs ++ [cy]) = val xs + val ys := by rw [val_snoc, HL.out, HV.out, vt_all xs k (by have := HN.out; omega), vt_all ys k (by have := HN'.out; omega)]
   have HF := hid hfin
   obtain ⟨hr1, hr2, _, ra, rc, rfl⟩ := rd_of_owns hown' (HD.out.append (Digs.cons (by omega) Digs.nil))
   have HR1 := hid hr1
   have HR2 := hid hr2
   clear hr1 hr2 hown' hfin
   go_wp2_with fail
   refine (frac_trimmed _ _ _ HR1.out).mono ?_
   rintro e w' ⟨a2, c2, rfl, hv2, ho2, k2, rfl⟩
   rw [HF.out] at hv2 ho2
   rw [HF.out]
   have HV2 := hid (hv2 _ HR1.out)
   have HO2 := hid ho2
   clear hv2 ho2
   go_wp2
   go_ret
   exact ⟨_, _, rfl, HV2.out, fun R hR => HO2.out R (HR2.out R hR), below_drewN hbl'.out⟩
theorem frac_plus (u v : Value) (xs ys : List Nat) (w : World) (hx : Rd32 w u xs) (hy : Rd32 w v ys) (hlx : xs.length ≤ 1073741824) (hly : ys.length ≤ 1073741824) :
    Calls Tryz.prog 174 #[u, v] w (GivesD w (val xs + val ys)) := by
  by_cases h : xs.length < ys.length
  · exact frac_plusA u v xs ys w hx hy hlx hly h
  · exact frac_plusB u v xs ys w hx hy hlx hly h
end Go.Proofs.YtikiimlmoalbcaaGreatDoor.Fr

namespace Go.Proofs.YtikiimlmoalbcaaGreatDoor.Fr
open Go.RowKit
set_option maxRecDepth 100000 in
set_option maxHeartbeats 2000000 in
theorem frac_product (u v : Value) (m n : Nat) (w : World) (hu : RdB w u false (dig m)) (hv : RdB w v false (dig n)) (hlm : (dig m).length ≤ 1048576) (hln : (dig n).length ≤ 1048576) (hlp : (dig (m * n)).length ≤ 1073741824) :
  Calls Tryz.prog 140 #[u, v] w (GivesZ [] w false (m * n)) := by
 obtain ⟨a, c, rfl, hu⟩ := hu
 obtain ⟨a', c', rfl, hv⟩ := hv
 have HTI := hid (fun W (hW : Below w.heap.size w W) => frac_times _ _ (dig m) (dig n) W (hu.kept hW) (hv.kept hW) (by omega) (by omega))
 rw [val_dig, val_dig] at HTI
 have HSG := hid (fun W s (hs : Rd32 W s (dig (m * n))) => frac_signed false s (m * n) W hs hlp)
 clear hu hv
 generalize (dig m).length = l1 at *
 generalize (dig n).length = l2 at *
 generalize m * n = p at *
 have hx1 := ((BoxN.new w #[.bool false, .slice a l1 c] 43).alloc (.cells #[.bool false, .slice a' l2 c'] 43)).alloc (.cells #[.bool false, .slice none 0 0] 43)
 have HX1 := hid hx1
 have hx2 := (BoxN.new (w.alloc (.cells #[.bool false, .slice a l1 c] 43)) #[.bool false, .slice a' l2 c'] 43).alloc (.cells #[.bool false, .slice none 0 0] 43)
 rw [World.size_alloc] at hx2
 have HX2 := hid hx2
 have hx3 := BoxN.new ((w.alloc (.cells #[.bool false, .slice a l1 c] 43)).alloc (.cells #[.bool false, .slice a' l2 c'] 43)) #[.bool false, .slice none 0 0] 43
 rw [World.size_alloc, World.size_alloc] at hx3
 have HX3 := hid hx3
 have HB0 := hid ((((Below.refl w.heap.size w).alloc (Nat.le_refl _) (.cells #[.bool false, .slice a l1 c] 43)).alloc (by simp) (.cells #[.bool false, .slice a' l2 c'] 43)).alloc (by simp; omega) (.cells #[.bool false, .slice none 0 0] 43))
 clear hx1 hx2 hx3
 go_enter Tryz.func140, Tryz.ntmps140
 go_upto_region 1 with fail
 generalize (((w.alloc (.cells #[.bool false, .slice a l1 c] 43)).alloc (.cells #[.bool false, .slice a' l2 c'] 43)).alloc (.cells #[.bool false, .slice none 0 0] 43)) = W0 at *
 have hz0 := HX3.out.lt
 have HG := hid (fun W (hW : Below W0.heap.size W0 W) => (⟨(HX1.out.below hW HX1.out.lt).cell 0 rfl, (HX1.out.below hW HX1.out.lt).cell 1 rfl, (HX2.out.below hW HX2.out.lt).cell 0 rfl, (HX2.out.below hW HX2.out.lt).cell 1 rfl⟩ : W.cell? ⟨w.heap.size, 0, none⟩ = some (.bool false) ∧ W.cell? ⟨w.heap.size, 1, none⟩ = some (.slice a l1 c) ∧ W.cell? ⟨w.heap.size + 1, 0, none⟩ = some (.bool false) ∧ W.cell? ⟨w.heap.size + 1, 1, none⟩ = some (.slice a' l2 c')))
 have HG2 := hid (fun W (hW : Below W0.heap.size W0 W) (x y : Value) => (⟨(((HX1.out.below hW HX1.out.lt).other (p := ⟨w.heap.size + 2, 0, none⟩) (by show w.heap.size + 2 ≠ w.heap.size; omega) x).other (p := ⟨w.heap.size + 2, 1, none⟩) (by show w.heap.size + 2 ≠ w.heap.size; omega) y).cell 0 rfl, (((HX1.out.below hW HX1.out.lt).other (p := ⟨w.heap.size + 2, 0, none⟩) (by show w.heap.size + 2 ≠ w.heap.size; omega) x).other (p := ⟨w.heap.size + 2, 1, none⟩) (by show w.heap.size + 2 ≠ w.heap.size; omega) y).cell 1 rfl, (((HX2.out.below hW HX2.out.lt).other (p := ⟨w.heap.size + 2, 0, none⟩) (by show w.heap.size + 2 ≠ w.heap.size + 1; omega) x).other (p := ⟨w.heap.size + 2, 1, none⟩) (by show w.heap.size + 2 ≠ w.heap.size + 1; omega) y).cell 0 rfl, (((HX2.out.below hW HX2.out.lt).other (p := ⟨w.heap.size + 2, 0, none⟩) (by show w.heap.size + 2 ≠ w.heap.size + 1; omega) x).other (p := ⟨w.heap.size + 2, 1, none⟩) (by show w.heap.size + 2 ≠ w.heap.size + 1; omega) y).cell 1 rfl⟩ : ((W.setCell ⟨w.heap.size + 2, 0, none⟩ x).setCell ⟨w.heap.size + 2, 1, none⟩ y).cell? ⟨w.heap.size, 0, none⟩ = some (.bool false) ∧ ((W.setCell ⟨w.heap.size + 2, 0, none⟩ x).setCell ⟨w.heap.size + 2, 1, none⟩ y).cell? ⟨w.heap.size, 1, none⟩ = some (.slice a l1 c) ∧ ((W.setCell ⟨w.heap.size + 2, 0, none⟩ x).setCell ⟨w.heap.size + 2, 1, none⟩ y).cell? ⟨w.heap.size + 1, 0, none⟩ = some (.bool false) ∧ ((W.setCell ⟨w.heap.size + 2, 0, none⟩ x).setCell ⟨w.heap.size + 2, 1, none⟩ y).cell? ⟨w.heap.size + 1, 1, none⟩ = some (.slice a' l2 c')))
 have HC := hid (show Below W0.heap.size W0 W0.drew by have h1 := Below.refl W0.heap.size W0; repeat' (first | (with_reducible exact Below.refl _ _) | (with_reducible assumption) | (with_reducible refine below_drewN ?_) | (with_reducible refine Below.alloc ?_ ?_ _) | (with_reducible refine Below.drew ?_) | (with_reducible refine Below.setCell ?_ ?_ _) | (with_reducible refine Below.trans ?_ (Below.mono (by with_reducible assumption) ?_)) | go_size))
 go_region_held3 (fun w' => w'.cell? ⟨w.heap.size, 0, none⟩ = some (.bool false) ∧ w'.cell? ⟨w.heap.size, 1, none⟩ = some (.slice a l1 c) ∧ w'.cell? ⟨w.heap.size + 1, 0, none⟩ = some (.bool false) ∧ w'.cell? ⟨w.heap.size + 1, 1, none⟩ = some (.slice a' l2 c'))
  (first | exact HG.out _ HC.out | exact HG2.out _ HC.out _ _ | go_keep)
  (first
   | (go_at_call 176; go_must (((with_reducible refine (HTI.out _ (HB0.out.trans (HC.out.mono HB0.out.size))).mono ?_); rintro e w5 ⟨a5, c5, rfl, hr5, ho5, hb5⟩; have HC := hid (HC.out.trans (hb5.mono HC.out.size)); have HS5 := hid HC.out.size; have HR5 := hid hr5; clear hr5 ho5 hb5)))
   | (go_at_call 173; go_must (((with_reducible refine (HSG.out _ _ HR5.out).mono ?_); rintro e w6 ⟨a6, c6, rfl, hr6, ho6, hb6⟩; have HC := hid (HC.out.trans (hb6.mono HC.out.size)); have HR6 := hid hr6; have HO6 := hid ho6; have hx6 := HX3.out.below HC.out hz0; have q0 := hx6.cell 0 rfl; have q1 := hx6.cell 1 rfl; have f0 := hx6.frozen 0; have f1 := hx6.frozen 1; clear hr6 ho6 hb6 hx6))))
 all_goals
  have hs5 := HS5.out
  go_wp2
  refine bodyPost_ret (by simp [results, Tryz.results140, go_sem, q0, q1]; rfl) rfl ?_
  exact ⟨a6, c6, rfl, (HR6.out.setCell (HO6.out _ (by simp; omega) (fun u hu => by cases hu))).setCell (HO6.out _ (by simp; omega) (fun u hu => by cases hu)), fun R hR _ => HO6.out R (by omega) (fun u hu => by cases hu), ((HB0.out.trans (HC.out.mono HB0.out.size)).setCell (by show w.heap.size ≤ w.heap.size + 2; omega) _).setCell (by show w.heap.size ≤ w.heap.size + 2; omega) _⟩
set_option maxHeartbeats 1000000 in
theorem frac_opposite (u : Value) (n : Nat) (w : World) (hu : RdB w u false (dig n)) :
    Calls Tryz.prog 141 #[u] w (fun e w' => ∃ v, e = .returned v ∧ Below w.heap.size w w' ∧ RdB w' v (decide (0 < n)) (dig n)) := by
  obtain ⟨a, c, rfl, hu⟩ := hu
  have HU := hid hu
  have hp : 0 < n ↔ 0 < (dig n).length := (dig_length_pos (n := n)).symm
  have hd : decide (0 < n) = decide (0 < (dig n).length) := by simp [hp]
  rw [hd]
  clear hu hp hd
  have HB0 := hid (((Below.refl w.heap.size w).alloc (Nat.le_refl _) (.cells #[.bool false, .slice a (dig n).length c] 43)).alloc (by simp) (.cells #[.bool false, .slice none 0 0] 43))
  have HR : Hid (∀ W, Below w.heap.size w W → RdB W (.agg #[.bool (decide (0 < (dig n).length)), .slice a (dig n).length c]) (decide (0 < (dig n).length)) (dig n)) := hid (fun W hW => ⟨a, c, rfl, HU.out.kept hW⟩)
  generalize (dig n).length = l at *
  by_cases h0 : 0 < l
  all_goals
    first | have hl : decide ((0 : Int) < (l : Int)) = true := decide_eq_true (by omega) | have hl : decide ((0 : Int) < (l : Int)) = false := decide_eq_false (by omega)
    go_enter Tryz.func141, Tryz.ntmps141
    go_wp2
    refine bodyPost_ret (v := .agg #[.bool (decide (0 < l)), .slice a l c]) (by simp [results, Tryz.results141, go_sem, h0]) rfl ⟨_, rfl, ?_, HR.out _ ?_⟩
    all_goals first | (have h1 := HB0.out; repeat' (first | (with_reducible exact Below.refl _ _) | (with_reducible assumption) | (with_reducible refine below_drewN ?_) | (with_reducible refine Below.alloc ?_ ?_ _) | (with_reducible refine Below.drew ?_) | (with_reducible refine Below.setCell ?_ ?_ _) | (with_reducible refine Below.trans ?_ (Below.mono (by with_reducible assumption) ?_)) | go_size)) | skip
end Go.Proofs.YtikiimlmoalbcaaGreatDoor.Fr
