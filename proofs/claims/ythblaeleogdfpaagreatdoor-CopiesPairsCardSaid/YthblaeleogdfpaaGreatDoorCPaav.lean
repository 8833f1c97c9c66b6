/- Contracts of fraction.Of (small numbers), containment.Valid and containment.Score. Contracts of the reference's sum and difference of words. Contract of the reference's product of words. Contracts of the reference's doubling and halving of words. Contract of the reference's greatest common divisor. Contracts of the reference's sum, product and negative of big integers. -/
import Derived.Test.YthblaeleogdfpaaGreatDoorCPaau
import Derived.Test.YthblaeleogdfpaaGreatDoorCPaas
import Derived.Test.YthblaeleogdfpaaGreatDoorCPaat
set_option linter.unusedVariables false
set_option linter.unusedSimpArgs false
namespace Go.Proofs.YthblaeleogdfpaaGreatDoor.Fr
open Go.RowKit
set_option maxRecDepth 100000 in
set_option maxHeartbeats 2000000 in
theorem frac_Of1 (n d : Nat) (w : World) (hn : n < 9223372036854775808) (hd : 0 < d) (hd2 : d < 4294967296) :
  Calls Tryz.prog 107 #[.int .i64 (n : Int), .int .i64 (d : Int)] w (GivesFE w false (n / Nat.gcd n d) (d / Nat.gcd n d) (.int .i64 0)) := by
 have hl2 := dig_length_64 (n := n) (by omega)
 have hok : okBig false (dig n) = true := okBig_false n (by omega)
 have HM := hid (fun W a a' c c' hx hy => frac_Make1 false a a' c c' n d W hx hy hok (Nat.le_trans hl2 (by omega)) hd hd2)
 clear hok hl2
 generalize n / Nat.gcd n d = p at *
 generalize d / Nat.gcd n d = q at *
 go_enter Tryz.func107, Tryz.ntmps107
 go_wp2_with fail
 refine (frac_FromInt n _ hn).mono ?_
 rintro e w1 ⟨a1, c1, rfl, hr1, ho1, hb1⟩
 have HR1 := hid hr1
 have HB1 := hid hb1
 have hz1 := hb1.size
 have k0 := cell_later hb1 (a := ⟨w.heap.size, 0, none⟩) (v := .bool false) (by go_cell)
 have k1 := cell_later hb1 (a := ⟨w.heap.size, 1, none⟩) (v := .slice none 0 0) (by go_cell)
 have k2 := cell_later hb1 (a := ⟨w.heap.size, 2, none⟩) (v := .bool false) (by go_cell)
 have k3 := cell_later hb1 (a := ⟨w.heap.size, 3, none⟩) (v := .slice none 0 0) (by go_cell)
 have fk0 := frozen_later hb1 (a := ⟨w.heap.size, 0, none⟩) (v := .bool false) (by go_cell) (by simp [go_sem])
 have fk1 := frozen_later hb1 (a := ⟨w.heap.size, 1, none⟩) (v := .slice none 0 0) (by go_cell) (by simp [go_sem])
 have fk2 := frozen_later hb1 (a := ⟨w.heap.size, 2, none⟩) (v := .bool false) (by go_cell) (by simp [go_sem])
 have fk3 := frozen_later hb1 (a := ⟨w.heap.size, 3, none⟩) (v := .slice none 0 0) (by go_cell) (by simp [go_sem])
 have hA1 : Below w.heap.size w w1 := by repeat' (first | (with_reducible exact Below.refl _ _) | (with_reducible assumption) | (with_reducible refine below_drewN ?_) | (with_reducible refine Below.alloc ?_ ?_ _) | (with_reducible refine Below.drew ?_) | (with_reducible refine Below.setCell ?_ ?_ _) | (with_reducible refine Below.trans ?_ (Below.mono (by with_reducible assumption) ?_)) | go_size)
 have HA1 := hid hA1
 clear hb1 hA1 hr1 ho1
 simp at hz1
 go_wp2_with fail
 refine (frac_FromInt d _ (by omega)).mono ?_
 rintro e w2 ⟨a2, c2, rfl, hr1, ho1, hb2⟩
 have HR2 := hid hr1
 have HB2 := hid hb2
 have hz2 := hb2.size
 have j0 := cell_later hb2 k0
 have j1 := cell_later hb2 k1
 have j2 := cell_later hb2 k2
 have j3 := cell_later hb2 k3
 have fj0 := frozen_later hb2 k0 fk0
 have fj1 := frozen_later hb2 k1 fk1
 have fj2 := frozen_later hb2 k2 fk2
 have fj3 := frozen_later hb2 k3 fk3
 clear hr1 ho1 hb2
 go_wp2_with fail
 refine (HM.out _ _ _ _ _ (HR1.out.kept HB2.out) HR2.out).mono ?_
 rintro e w3 ⟨a3, c3, a4, c4, rfl, hN, hb3⟩
 have HN := hid hN
 have HB3 := hid hb3
 have hz3 := hb3.size
 have m0 := cell_later hb3 j0
 have m1 := cell_later hb3 j1
 have m2 := cell_later hb3 j2
 have m3 := cell_later hb3 j3
 have fm0 := frozen_later hb3 j0 fj0
 have fm1 := frozen_later hb3 j1 fj1
 have fm2 := frozen_later hb3 j2 fj2
 have fm3 := frozen_later hb3 j3 fj3
 clear hN hb3
 go_wp2
 refine bodyPost_ret (by simp [results, Tryz.results107, go_sem, m0, m1, m2, m3]; rfl) rfl ?_
 exact ⟨a3, c3, a4, c4, by first | rfl | simp, ((((HN.out.setCell (by simp; omega)).setCell (by simp; omega)).setCell (by simp; omega)).setCell (by simp; omega)).mono (by omega), by have h1 := HA1.out; have h2 := HB2.out; have h3 := HB3.out; repeat' (first | (with_reducible exact Below.refl _ _) | (with_reducible assumption) | (with_reducible refine below_drewN ?_) | (with_reducible refine Below.alloc ?_ ?_ _) | (with_reducible refine Below.drew ?_) | (with_reducible refine Below.setCell ?_ ?_ _) | (with_reducible refine Below.trans ?_ (Below.mono (by with_reducible assumption) ?_)) | go_size)⟩
end Go.Proofs.YthblaeleogdfpaaGreatDoor.Fr

namespace Go.Proofs.YthblaeleogdfpaaGreatDoor.Fr
open Go.RowKit
def AddRel (w : World) (xs ys : List Nat) (o cv i : Value) (wr : World) (k c : Nat) : Prop :=
  ∃ zs : List Nat, zs.length = k ∧ Digs zs ∧ val zs + 4294967296 ^ k * c = vt xs k + vt ys k ∧ wr.ownsRow w.heap.size 157 1 o k (zs.map U32) ∧ Below w.heap.size w wr
set_option maxHeartbeats 1000000 in
theorem ref_sub (u v : Value) (xs ys : List Nat) (w : World) (hx : Rd32 w u xs) (hy : Rd32 w v ys) (hlx : xs.length ≤ 1073741824) (hle : val ys ≤ val xs) (hll : ys.length ≤ xs.length) :
  Calls Tryz.prog 248 #[u, v] w (GivesD w (val xs - val ys)) := by
 obtain ⟨a, c, rfl, hc, hm, hxr, hxc⟩ := hx
 obtain ⟨a', c', rfl, hc', hm', hyr, hyc⟩ := hy
 unfold maxLen at hm hm'
 obtain ⟨i0, hi, hz0, hz1, hz2⟩ := info_parts info_u32
 obtain ⟨n, hn⟩ : ∃ n, n = xs.length := ⟨_, rfl⟩
 obtain ⟨n', hn'⟩ : ∃ n, n = ys.length := ⟨_, rfl⟩
 rw [← hn] at hc hxc hlx hll ⊢
 rw [← hn'] at hc' hyc hll ⊢
 have HN := hid hn
 have HN' := hid hn'
 have HX := hid hxr
 have HY := hid hyr
 have HXC := hid hxc
 have HYC := hid hyc
 have HLE := hid hle
 clear hn hn' hxr hyr hxc hyc hle
 go_enter Tryz.func248, Tryz.ntmps248
 go_wp2
 go_loopw [5, 6, 7] (fun o cv i wr => ∃ k q : Nat, k ≤ n ∧ i = .int .i64 k ∧ cv = .int .i64 (-(q : Int)) ∧ q ≤ 1 ∧ ∃ zs : List Nat, zs.length = k ∧ Digs zs ∧ val zs + vt ys k = vt xs k + 4294967296 ^ k * q ∧ wr.ownsRow w.heap.size 157 1 o k (zs.map U32) ∧ Below w.heap.size w wr) (fun _ _ i _ => n - (intOf i).toNat)
 case atStart => exact ⟨0, 0, by omega, rfl, rfl, by omega, [], rfl, Digs.nil, rfl, World.ownsRow_nil _ _ _ _, Below.refl _ _⟩
 case round =>
  obtain ⟨k, q, hk, rfl, rfl, hq, zs, hzl, hzd, hv, hown, hbl⟩ := hrel
  have HV := hid hv
  have HL := hid hzl
  have HD := hid hzd
  have hxk := HX.out k
  have hyk := HY.out k
  have HB := hid hbl
  have hbs := hbl.size
  clear hv hzl hzd hbl
  by_cases h1 : k < n
  ·obtain ⟨b, o, rfl, hb, hcell⟩ := HXC.out (by omega)
   have hcx := (HB.out.cell (p := ⟨b, o + k, none⟩) hb).trans (hcell k h1)
   clear hcell
   by_cases h2 : k < n'
   ·obtain ⟨b', o', rfl, hb', hcell⟩ := HYC.out (by omega)
    have hcy' := (HB.out.cell (p := ⟨b', o' + k, none⟩) hb').trans (hcell k h2)
    clear hcell
    have hdig := sub_digit (xs.getD k 0) (ys.getD k 0) q hxk hyk hq
    obtain ⟨d, q', hd, hq', he, hd1, hd2⟩ := hdig
    have hst := hid (sub_step (xs := xs) (ys := ys) HL.out HV.out he)
    have HD1 := hid hd1
    have HD2 := hid hd2
    clear he hd1 hd2
    generalize xs.getD k 0 = x at *
    generalize ys.getD k 0 = y at *
    go_wp2_with (at_builtin; refine wpList_append_own _ rfl _ _ 45 rfl (w.heap.size) 157 i0 (.int .u32 0) 1 4 Tryz.underlying45 hi hz0 hz1 hz2 rfl (by decide) _ _ _ rfl (hown.alloc _) ⟨_, 0, none⟩ 1 1 [(.int .u32 ((-(q : Int) + x - y) % 4294967296))] rfl rfl (cell_one_new _ _ _) (by intro u hu; simp at hu; subst hu; rfl) (by unfold maxLen; omega) (by omega) (by simp; omega) ?_)
    intro v' w1 hown' hgrow _
    have hbl' := hid (push_below HB.out (by omega) hown hgrow)
    clear hown hgrow hcx
    rw [HD1.out, map_snoc] at hown'
    go_wp2
    rw [HD2.out]
    go_roundw
    case rel => exact ⟨k + 1, q', by omega, by go_num, rfl, by omega, zs ++ [d], by simp [HL.out], HD.out.append (Digs.cons (by omega) Digs.nil), hst.out, hown', hbl'.out⟩
    case measure => simp [intOf]; omega
   ·have h0 : ys.getD k 0 = 0 := getD_beyond (by have := HN'.out; omega)
    obtain ⟨d, q', hd, hq', he, hd1, hd2⟩ := sub_digit (xs.getD k 0) 0 q hxk (by omega) hq
    have hst := hid (sub_step (xs := xs) (ys := ys) HL.out HV.out (d := d) (q' := q') (by rw [h0]; exact he))
    rw [show (-(q : Int) + (xs.getD k 0 : Nat) - (0 : Nat)) = -(q : Int) + (xs.getD k 0 : Nat) from by omega] at hd1 hd2
    have HD1 := hid hd1
    have HD2 := hid hd2
    clear he hd1 hd2 h0 hyk
    generalize xs.getD k 0 = x at *
    go_wp2_with (at_builtin; refine wpList_append_own _ rfl _ _ 45 rfl (w.heap.size) 157 i0 (.int .u32 0) 1 4 Tryz.underlying45 hi hz0 hz1 hz2 rfl (by decide) _ _ _ rfl (hown.alloc _) ⟨_, 0, none⟩ 1 1 [(.int .u32 ((-(q : Int) + x) % 4294967296))] rfl rfl (cell_one_new _ _ _) (by intro u hu; simp at hu; subst hu; rfl) (by unfold maxLen; omega) (by omega) (by simp; omega) ?_)
    intro v' w1 hown' hgrow _
    have hbl' := hid (push_below HB.out (by omega) hown hgrow)
    clear hown hgrow hcx
    rw [HD1.out, map_snoc] at hown'
    go_wp2
    rw [HD2.out]
    go_roundw
    case rel => exact ⟨k + 1, q', by omega, by go_num, rfl, by omega, zs ++ [d], by simp [HL.out], HD.out.append (Digs.cons (by omega) Digs.nil), hst.out, hown', hbl'.out⟩
    case measure => simp [intOf]; omega
  ·have hfin : val zs = val xs - val ys := by
    have h1' := HV.out
    rw [vt_all xs k (by have := HN.out; omega), vt_all ys k (by have := HN'.out; omega)] at h1'
    exact sub_done HL.out HD.out h1' HLE.out hq
   have HF := hid hfin
   clear hfin
   obtain ⟨hr1, hr2, _, ra, rc, rfl⟩ := rd_of_owns hown HD.out
   have HR1 := hid hr1
   have HR2 := hid hr2
   clear hr1 hr2 hown
   go_wp2_with fail
   refine (ref_trim _ _ _ HR1.out).mono ?_
   rintro e w' ⟨a2, c2, rfl, hv2, ho2, k2, rfl⟩
   rw [HF.out] at hv2 ho2
   rw [HF.out]
   have HV2 := hid (hv2 _ HR1.out)
   have HO2 := hid ho2
   clear hv2 ho2
   go_wp2
   go_ret
   exact ⟨_, _, rfl, HV2.out, fun R hR => HO2.out R (HR2.out R hR), below_drewN HB.out⟩
end Go.Proofs.YthblaeleogdfpaaGreatDoor.Fr

namespace Go.Proofs.YthblaeleogdfpaaGreatDoor.Fr
open Go.RowKit
end Go.Proofs.YthblaeleogdfpaaGreatDoor.Fr

namespace Go.Proofs.YthblaeleogdfpaaGreatDoor.Fr
open Go.RowKit
theorem twice_digit (x q : Nat) (hx : x < 4294967296) (hq : q ≤ 1) : ∃ D q', D < 4294967296 ∧ q' ≤ 1 ∧ D + 4294967296 * q' = 2 * x + q ∧ bits BinOp.or IntKind.u32 ((x : Int) * 2 % 4294967296) (q : Int) = (D : Int) ∧ (x : Int) / 2147483648 = (q' : Int) := by
  refine ⟨x * 2 % 4294967296 + q, x / 2147483648, by omega, by omega, by omega, ?_, by omega⟩
  rw [show ((x : Int) * 2 % 4294967296) = ((x * 2 % 4294967296 : Nat) : Int) from by omega, u32_or_nat _ _ (by omega) (by omega), nat_join1 _ _ (by omega) (by omega)]
set_option maxHeartbeats 1000000 in
theorem ref_twice (u : Value) (xs : List Nat) (d : Nat) (w : World) (hx : Rd32 w u xs) (hlx : xs.length ≤ 1073741824) (hd : d ≤ 1) :
  Calls Tryz.prog 272 #[u, .int .u32 (d : Int)] w (GivesD w (2 * val xs + d)) := by
 obtain ⟨a, c, rfl, hc, hm, hxr, hxc⟩ := hx
 unfold maxLen at hm
 obtain ⟨i0, hi, hz0, hz1, hz2⟩ := info_parts info_u32
 obtain ⟨n, hn⟩ : ∃ n, n = xs.length := ⟨_, rfl⟩
 rw [← hn] at hc hxc hlx ⊢
 have HN := hid hn
 have HX := hid hxr
 have HXC := hid hxc
 clear hn hxr hxc
 go_enter Tryz.func272, Tryz.ntmps272
 go_wp2
 go_loopw [1, 5, 6] (fun cv o i wr => ∃ k q : Nat, k ≤ n ∧ i = .int .i64 k ∧ cv = .int .u32 (q : Int) ∧ q ≤ 1 ∧ ∃ zs : List Nat, zs.length = k ∧ Digs zs ∧ val zs + 4294967296 ^ k * q = 2 * vt xs k + d ∧ wr.ownsRow w.heap.size 157 1 o k (zs.map U32) ∧ Below w.heap.size w wr) (fun _ _ i _ => n - (intOf i).toNat)
 case atStart => exact ⟨0, d, by omega, rfl, rfl, by omega, [], rfl, Digs.nil, by simp [vt_zero, val], World.ownsRow_nil _ _ _ _, Below.refl _ _⟩
 case round =>
  obtain ⟨k, q, hk, rfl, rfl, hq, zs, hzl, hzd, hv, hown, hbl⟩ := hrel
  have HV := hid hv
  have HL := hid hzl
  have HD := hid hzd
  have hxk := HX.out k
  have HB := hid hbl
  have hbs := hbl.size
  clear hv hzl hzd hbl
  by_cases h1 : k < n
  ·obtain ⟨b, o, rfl, hb, hcell⟩ := HXC.out (by omega)
   have hcx := (HB.out.cell (p := ⟨b, o + k, none⟩) hb).trans (hcell k h1)
   have HCX := hid (hcell k h1)
   clear hcell
   obtain ⟨D, q', hD, hq', he, hd1, hd2⟩ := twice_digit (xs.getD k 0) q hxk hq
   have hst := hid (twice_step (xs := xs) HL.out HV.out he)
   have HD1 := hid hd1
   have HD2 := hid hd2
   clear he hd1 hd2
   generalize xs.getD k 0 = x at *
   go_wp2_with (at_builtin; refine wpList_append_own _ rfl _ _ 45 rfl (w.heap.size) 157 i0 (.int .u32 0) 1 4 Tryz.underlying45 hi hz0 hz1 hz2 rfl (by decide) _ _ _ rfl (hown.alloc _) ⟨_, 0, none⟩ 1 1 [(.int .u32 (bits BinOp.or IntKind.u32 ((x : Int) * 2 % 4294967296) (q : Int)))] rfl rfl (cell_one_new _ _ _) (by intro u hu; simp at hu; subst hu; rfl) (by unfold maxLen; omega) (by omega) (by simp; omega) ?_)
   intro v' w1 hown' hgrow _
   have hbl2 := push_below HB.out (by omega) hown hgrow
   have hcx' := (hbl2.cell (p := ⟨b, o + k, none⟩) hb).trans HCX.out
   have hbl' := hid hbl2
   clear hown hgrow hcx hbl2
   rw [HD1.out, map_snoc] at hown'
   go_wp2
   rw [HD2.out]
   go_roundw
   case rel => exact ⟨k + 1, q', by omega, by go_num, rfl, by omega, zs ++ [D], by simp [HL.out], HD.out.append (Digs.cons (by omega) Digs.nil), hst.out, hown', hbl'.out⟩
   case measure => simp [intOf]; omega
  ·go_wp2_with (at_builtin; refine wpList_append_own _ rfl _ _ 45 rfl (w.heap.size) 157 i0 (.int .u32 0) 1 4 Tryz.underlying45 hi hz0 hz1 hz2 rfl (by decide) _ _ _ rfl (hown.alloc _) ⟨_, 0, none⟩ 1 1 [(.int .u32 (q : Int))] rfl rfl (cell_one_new _ _ _) (by intro u hu; simp at hu; subst hu; rfl) (by unfold maxLen; omega) (by omega) (by simp; omega) ?_)
   intro v' w1 hown' hgrow _
   have hbl' := hid (push_below HB.out (by omega) hown hgrow)
   have hbs' := hbl'.out.size
   clear hown hgrow
   rw [map_snoc] at hown'
   have hfin : val (zs ++ [q]) = 2 * val xs + d := by
    rw [val_snoc, HL.out, HV.out, vt_all xs k (by have := HN.out; omega)]
   have HF := hid hfin
   obtain ⟨hr1, hr2, _, ra, rc, rfl⟩ := rd_of_owns hown' (HD.out.append (Digs.cons (by omega) Digs.nil))
   have HR1 := hid hr1
   have HR2 := hid hr2
   clear hr1 hr2 hown' hfin
   go_wp2_with fail
   refine (ref_trim _ _ _ HR1.out).mono ?_
   rintro e w' ⟨a2, c2, rfl, hv2, ho2, k2, rfl⟩
   rw [HF.out] at hv2 ho2
   rw [HF.out]
   have HV2 := hid (hv2 _ HR1.out)
   have HO2 := hid ho2
   clear hv2 ho2
   go_wp2
   go_ret
   exact ⟨_, _, rfl, HV2.out, fun R hR => HO2.out R (HR2.out R hR), below_drewN hbl'.out⟩
theorem half_digit (x y : Nat) (hx : x < 4294967296) (hy : y < 4294967296) : bits BinOp.or IntKind.u32 ((x : Int) / 2) ((y : Int) * 2147483648 % 4294967296) = ((x / 2 + y % 2 * 2147483648 : Nat) : Int) := by
  rw [show ((x : Int) / 2) = ((x / 2 : Nat) : Int) from by omega, show ((y : Int) * 2147483648 % 4294967296) = ((y % 2 * 2147483648 : Nat) : Int) from by omega,
    u32_or_nat _ _ (by omega) (by omega), nat_join31' _ _ (by omega) (by omega)]
  omega
set_option maxHeartbeats 1000000 in
set_option maxRecDepth 100000 in
theorem ref_half (u : Value) (xs : List Nat) (w : World) (hx : Rd32 w u xs) (hlx : xs.length ≤ 1073741824) (hpos : 0 < xs.length) :
  Calls Tryz.prog 271 #[u] w (GivesD w (val xs / 2)) := by
 obtain ⟨a, c, rfl, hc, hm, hxr, hxc⟩ := hx
 unfold maxLen at hm
 obtain ⟨i0, hi, hz0, hz1, hz2⟩ := info_parts info_u32
 obtain ⟨b, o, rfl, hb, hcell⟩ := hxc hpos
 have hnews := Rd32.news (n := 0) (c := 0) (w := w.alloc (.cells #[] 157)) (fun i hi => (World.cell?_alloc_lt _ _ ⟨b, o + i, none⟩ hb).trans (hcell i hi))
 obtain ⟨n, hn⟩ : ∃ n, n = xs.length := ⟨_, rfl⟩
 rw [← hn] at hc hcell hlx hpos ⊢
 have HN := hid hn
 have HX := hid hxr
 have HXC := hid hcell
 have HNEWS := hid hnews
 have hlen : (xs.map U32).length = n * 1 := by simp [hn]
 have HLEN := hid hlen
 clear hn hxr hcell hxc hnews hlen
 have hown0 : (w.alloc (.cells #[] 157)).ownsRow w.heap.size 157 1 (.slice (some ⟨w.heap.size, 0, none⟩) 0 0) 0 [] := World.ownsRow_made w #[] 0 (Nat.le_refl _) (Nat.zero_le _) rfl
 have HOWN := hid hown0
 clear hown0
 go_enter Tryz.func271, Tryz.ntmps271
 go_wp2_with (at_builtin; refine wpList_append_own _ rfl _ _ 45 rfl w.heap.size 157 i0 (.int .u32 0) 1 4 Tryz.underlying45 hi hz0 hz1 hz2 rfl (by decide) _ _ _ rfl HOWN.out ⟨b, o, none⟩ n c (xs.map U32) rfl HLEN.out HNEWS.out (u32_one xs) (by unfold maxLen; omega) (by omega) (by go_size) ?_)
 intro v' w1 hown hgrow _
 obtain ⟨g, cap, rfl, hcap, hcm, hg, hO⟩ := own32_of_owns hown HX.out hpos
 have HO := hid hO
 have hbl : Below w.heap.size w w1 := ((Below.refl _ w).alloc (Nat.le_refl _) _).grown hgrow (by simp) (fun k hk => (HOWN.out.lt k hk).1)
 have HB := hid hbl
 unfold maxLen at hcm
 clear hO hown hgrow hbl HOWN HNEWS HLEN
 go_wp2
 go_loopw [10] (fun i wr => ∃ k : Nat, k ≤ n ∧ i = .int .i64 k ∧ Own32 wr g n ((halfF xs).take k ++ xs.drop k) ∧ Below w.heap.size w wr) (fun i _ => n - (intOf i).toNat)
 case atStart => exact ⟨0, by omega, rfl, by simpa using HO.out, HB.out⟩
 case round =>
  clear HO HB
  obtain ⟨k, hk, rfl, hO, hbl⟩ := hrel
  have HO := hid hO
  have HB := hid hbl
  clear hO hbl
  by_cases h1 : k < n
  ·obtain ⟨hcz, hfz⟩ := HO.out.2.2.2 k h1
   rw [mixed_getD (halfF_length xs) (by have := HN.out; omega)] at hcz
   have hset := halfF_getD xs k (by have := HN.out; omega)
   have hxk := HX.out k
   have hyk := HX.out (k + 1)
   have hmx := mixed_set (halfF_length xs) (show k < xs.length by have := HN.out; omega)
   by_cases h2 : k + 1 < n
   ·have hcx := (HB.out.cell (p := ⟨b, o + (k + 1), none⟩) hb).trans (HXC.out (k + 1) h2)
    have hd := half_digit (xs.getD k 0) (xs.getD (k + 1) 0) hxk hyk
    rw [← hset] at hd
    have HSET := hid hset
    have HMX := hid hmx
    have HXY := hid (HXC.out (k + 1) h2)
    clear hset hmx
    generalize xs.getD (k + 1) 0 = y at *
    generalize xs.getD k 0 = x at *
    go_wp2
    have hO1 := HO.out.set h1 (show x / 2 < 4294967296 by omega)
    have hb1 : Below w.heap.size w (wr.setCell ⟨g, k, none⟩ (U32 (x / 2))) := HB.out.setCell hg _
    rw [show ((x : Int) / 2) = ((x / 2 : Nat) : Int) from by omega]
    have hcx1 := (hb1.cell (p := ⟨b, o + (k + 1), none⟩) hb).trans HXY.out
    generalize wr.setCell ⟨g, k, none⟩ (U32 (x / 2)) = W at *
    clear hcz hfz hcx
    obtain ⟨hcz, hfz⟩ := hO1.2.2.2 k h1
    rw [getD_set_self (by rw [HO.out.1]; exact h1)] at hcz
    have HO1 := hid (hO1.set h1 (d := (halfF xs).getD k 0) (digs_halfF HX.out k))
    have HB1 := hid hb1
    clear hO1 hb1
    go_region
    all_goals
     go_wp2
     have hO2 := HO1.out
     rw [List.set_set, HMX.out] at hO2
     have HO2 := hid hO2
     clear hO2 hd
     go_roundw
     case rel => exact ⟨k + 1, by omega, by go_num, HO2.out.drew, (HB1.out.setCell (p := ⟨g, k, none⟩) hg _).drew⟩
     case measure => simp [intOf]; omega
   ·have h0 : xs.getD (k + 1) 0 = 0 := getD_beyond (by have := HN.out; omega)
    rw [h0, Nat.zero_mod, Nat.zero_mul, Nat.add_zero] at hset
    have HMX := hid hmx
    have HSET := hid hset
    clear hset hmx h0 hyk
    generalize xs.getD k 0 = x at *
    go_wp2
    have hO1 := HO.out.set h1 (show x / 2 < 4294967296 by omega)
    rw [← HSET.out, HMX.out, HSET.out] at hO1
    have HO1 := hid hO1
    have HB1 := hid (HB.out.setCell (p := ⟨g, k, none⟩) hg (U32 (x / 2)))
    rw [show ((x : Int) / 2) = ((x / 2 : Nat) : Int) from by omega]
    clear hO1
    go_roundw
    case rel => exact ⟨k + 1, by omega, by go_num, HO1.out, HB1.out⟩
    case measure => simp [intOf]; omega
  ·have hO := HO.out
   rw [List.take_of_length_le (by rw [halfF_length]; have := HN.out; omega), List.drop_eq_nil_of_le (by have := HN.out; omega), List.append_nil] at hO
   have HR1 := hid (hO.rd hcap (by unfold maxLen; exact hcm))
   clear hO
   go_wp2_with fail
   refine (ref_trim _ _ _ HR1.out).mono ?_
   rintro e w' ⟨a2, c2, rfl, hv2, ho2, k2, rfl⟩
   rw [val_halfF] at hv2 ho2
   rw [val_halfF]
   have HV2 := hid (hv2 _ HR1.out)
   have HO2 := hid ho2
   clear hv2 ho2
   go_wp2
   go_ret
   exact ⟨_, _, rfl, HV2.out, fun R hR => HO2.out R (Off.of_lt (by omega)), below_drewN HB.out⟩
end Go.Proofs.YthblaeleogdfpaaGreatDoor.Fr

namespace Go.Proofs.YthblaeleogdfpaaGreatDoor.Fr
open Go.RowKit
theorem and_even (n : Nat) (h : n % 2 = 0) : bits BinOp.and IntKind.u32 ((n : Int) % 4294967296) 1 = 0 := by
  have := u32_and_nat (n % 4294967296) 1 (by omega) (by omega)
  rw [show ((n : Int) % 4294967296) = ((n % 4294967296 : Nat) : Int) from by omega, show (1 : Int) = ((1 : Nat) : Int) from rfl, this, Nat.and_one_is_mod]
  omega
theorem and_odd (n : Nat) (h : n % 2 = 1) : bits BinOp.and IntKind.u32 ((n : Int) % 4294967296) 1 = 1 := by
  have := u32_and_nat (n % 4294967296) 1 (by omega) (by omega)
  rw [show ((n : Int) % 4294967296) = ((n % 4294967296 : Nat) : Int) from by omega, show (1 : Int) = ((1 : Nat) : Int) from rfl, this, Nat.and_one_is_mod]
  omega
set_option maxRecDepth 100000 in
set_option maxHeartbeats 4000000 in
theorem ref_gcd_from (us : List Value) (u v : Value) (A B : Nat) (w : World) (hux : HoldsZ us w.heap.size w u A) (hvy : HoldsZ us w.heap.size w v B) (hA : 0 < A) (hB : 0 < B) (hlA : (dig A).length ≤ 1073741824) (hlB : (dig B).length ≤ 1073741824) :
  Calls Tryz.prog 233 #[u, v] w (GivesS us w (Nat.gcd A B)) := by
 have HLA := hid (fun n (h : n ≤ A) => Nat.le_trans (dig_length_mono h) hlA)
 have HLB := hid (fun n (h : n ≤ B) => Nat.le_trans (dig_length_mono h) hlB)
 clear hlA hlB
 have HU := hid hux
 have HV := hid hvy
 clear hux hvy
 go_enter Tryz.func233, Tryz.ntmps233
 go_wp2
 have HLM := hid (fun n (h : n ≤ max A B) => (by rcases Nat.le_total A B with h1 | h1; exact HLB.out n (by omega); exact HLA.out n (by omega) : (dig n).length ≤ 1073741824))
 go_loopg [0, 1, 5] A (fun N p q kv wr => ∃ a b k : Nat, kv = .int .i64 k ∧ a = N ∧ A = a * 2 ^ k ∧ B = b * 2 ^ k ∧ 0 < a ∧ 0 < b ∧ HoldsZ us w.heap.size wr p a ∧ HoldsZ us w.heap.size wr q b ∧ Below w.heap.size w wr)
 case atStart => exact ⟨A, B, 0, rfl, rfl, by simp, by simp, hA, hB, HU.out, HV.out, Below.refl _ _⟩
 case round =>
  clear HU HV
  obtain ⟨a, b, k, rfl, rfl, hAk, hBk, ha, hb, hpa, hqb, hbl⟩ := hrel
  have HAK := hid hAk
  have HBK := hid hBk
  have HP := hid hpa
  have HQ := hid hqb
  have HB := hid hbl
  have hbs := hbl.size
  clear hAk hBk hpa hqb hbl
  have hk63 := k_bound HAK.out ha (HLA.out A (Nat.le_refl _))
  have haA : a ≤ A := by rw [HAK.out]; exact Nat.le_mul_of_pos_right _ (Nat.two_pow_pos _)
  have hbB : b ≤ B := by rw [HBK.out]; exact Nat.le_mul_of_pos_right _ (Nat.two_pow_pos _)
  obtain ⟨b1, o1, L1, c1, rfl, hL1, hc1⟩ := HP.out.head ha
  obtain ⟨b2, o2, L2, c2, rfl, hL2, hc2⟩ := HQ.out.head hb
  by_cases he : a % 2 = 0 ∧ b % 2 = 0
  ·have e1 := and_even a he.1
   have e2 := and_even b he.2
   have HE := hid he
   clear he
   go_wp2_with fail
   refine (ref_half _ (dig a) _ HP.out.rd (HLA.out a haA) (dig_length_pos.2 ha)).mono ?_
   rintro e w1 ⟨a1, c1', rfl, hv1, ho1, hb1⟩
   rw [val_dig] at hv1 ho1
   rw [val_dig]
   have HV1 := hid hv1
   have HO1 := hid ho1
   have HB1 := hid hb1
   have hbs1 := hb1.size
   clear hv1 ho1 hb1
   go_wp2_with fail
   refine (ref_half _ (dig b) _ (HQ.out.kept HB1.out).rd (HLB.out b hbB) (dig_length_pos.2 hb)).mono ?_
   rintro e w2 ⟨a2, c2', rfl, hv2, ho2, hb2⟩
   rw [val_dig] at hv2 ho2
   rw [val_dig]
   have HV2 := hid hv2
   have HO2 := hid ho2
   have HB2 := hid hb2
   have hbs2 := hb2.size
   clear hv2 ho2 hb2
   go_wp2
   go_roundg (a / 2)
   case measure => omega
   case rel => exact ⟨a / 2, b / 2, k + 1, by go_num, rfl, half_pow HAK.out HE.out.1, half_pow HBK.out HE.out.2, by have := HE.out; omega, by have := HE.out; omega,
    (HoldsZ.of_gives hbs HV1.out HO1.out).kept HB2.out, HoldsZ.of_gives (by omega) HV2.out HO2.out, (HB.out.trans (HB1.out.mono (by omega))).trans (HB2.out.mono (by omega))⟩
  ·have HG := hid (gcd_odd he)
   have hpar : a % 2 = 1 ∨ (a % 2 = 0 ∧ b % 2 = 1) := by omega
   have HAB : Hid (Nat.gcd A B = Nat.gcd a b * 2 ^ k) := by unfold Hid; rw [HAK.out, HBK.out, Nat.gcd_mul_right]
   clear he
   rcases hpar with he | ⟨he, he'⟩
   case' inl => have e1 := and_odd a he
   case' inr => have e1 := and_even a he; have e2 := and_odd b he'; clear he'
   all_goals
    clear he
    generalize hgg : Nat.gcd a b = G at HG HAB
    have HGG := hid hgg
    clear hgg
    go_wp2
    go_loopg [0, 1] (a + b) (fun N p q wr => ∃ x y : Nat, x + y = N ∧ 0 < x ∧ x ≤ max A B ∧ y ≤ max A B ∧ Nat.gcd x y = G ∧ HoldsZ us w.heap.size wr p x ∧ HoldsZ us w.heap.size wr q y ∧ Below w.heap.size w wr)
    case atStart => exact ⟨a, b, rfl, ha, by omega, by omega, HGG.out, HP.out, HQ.out, HB.out⟩
    case round =>
     clear HP HQ HB hbs hc1 hc2 hL1 hL2
     obtain ⟨x, y, rfl, hx, hxM, hyM, hG, hpa, hqb, hbl⟩ := hrel
     have HP := hid hpa
     have HQ := hid hqb
     have HB := hid hbl
     have HGX := hid hG
     have hbs := hbl.size
     clear hpa hqb hbl hG
     obtain ⟨p2, L2, c2, rfl, hL2⟩ := HQ.out.len
     by_cases hy : 0 < y
     ·have hl := hL2.2 hy
      clear hL2
      obtain ⟨wo, rfl⟩ : ∃ wo : World, wo = wr := ⟨_, rfl⟩
      go_wp2
      go_loopg [0] x (fun N p wr => ∃ z : Nat, z = N ∧ 0 < z ∧ z ≤ x ∧ Nat.gcd z y = G ∧ HoldsZ us w.heap.size wr p z ∧ HoldsZ us w.heap.size wr (.slice p2 L2 c2) y ∧ Below w.heap.size w wr)
      case atStart => exact ⟨x, rfl, hx, Nat.le_refl _, HGX.out, HP.out, HQ.out, HB.out⟩
      case round =>
       clear HP HQ HB hbs HGX
       obtain ⟨z, rfl, hz, hzx, hG, hpa, hqb, hbl⟩ := hrel
       have HP := hid hpa
       have HQ := hid hqb
       have HB := hid hbl
       have HGX := hid hG
       have hbs := hbl.size
       clear hpa hqb hbl hG
       obtain ⟨b1, o1, L1, c1, rfl, hL1, hc1⟩ := HP.out.head hz
       by_cases hev : z % 2 = 0
       ·have e1 := and_even z hev
        have HEV := hid hev
        clear hev
        go_wp2_with fail
        refine (ref_half _ (dig z) _ HP.out.rd (HLM.out z (by omega)) (dig_length_pos.2 hz)).mono ?_
        rintro e w1 ⟨a1, c1', rfl, hv1, ho1, hb1⟩
        rw [val_dig] at hv1 ho1
        rw [val_dig]
        have HV1 := hid hv1
        have HO1 := hid ho1
        have HB1 := hid hb1
        have hbs1 := hb1.size
        clear hv1 ho1 hb1
        go_wp2
        go_roundg (z / 2)
        case measure => omega
        case rel => exact ⟨z / 2, rfl, by have := HEV.out; omega, by omega, by rw [gcd_half_left HEV.out (by rw [HGX.out]; exact HG.out)]; exact HGX.out, HoldsZ.of_gives hbs HV1.out HO1.out, HQ.out.kept HB1.out, HB.out.trans (HB1.out.mono (by omega))⟩
       ·have e1 := and_odd z (by omega)
        have HEV := hid hev
        clear hev
        obtain ⟨wo, rfl⟩ : ∃ wo : World, wo = wr := ⟨_, rfl⟩
        go_wp2
        go_loopg [1] y (fun N q wr => ∃ v : Nat, v = N ∧ 0 < v ∧ v ≤ y ∧ Nat.gcd z v = G ∧ HoldsZ us w.heap.size wr (.slice (some ⟨b1, o1, none⟩) L1 c1) z ∧ HoldsZ us w.heap.size wr q v ∧ Below w.heap.size w wr)
        case atStart => exact ⟨y, rfl, hy, Nat.le_refl _, HGX.out, HP.out, HQ.out, HB.out⟩
        case round =>
         clear HP HQ HB hbs HGX e1 hc1
         obtain ⟨v, rfl, hv, hvy, hG, hpa, hqb, hbl⟩ := hrel
         have HP := hid hpa
         have HQ := hid hqb
         have HB := hid hbl
         have HGX := hid hG
         have hbs := hbl.size
         clear hpa hqb hbl hG
         obtain ⟨b2, o2, L2, c2, rfl, hL2, hc2⟩ := HQ.out.head hv
         by_cases hev : v % 2 = 0
         ·have e1 := and_even v hev
          have HEV2 := hid hev
          clear hev
          go_wp2_with fail
          refine (ref_half _ (dig v) _ HQ.out.rd (HLM.out v (by omega)) (dig_length_pos.2 hv)).mono ?_
          rintro e w1 ⟨a1, c1', rfl, hv1, ho1, hb1⟩
          rw [val_dig] at hv1 ho1
          rw [val_dig]
          have HV1 := hid hv1
          have HO1 := hid ho1
          have HB1 := hid hb1
          have hbs1 := hb1.size
          clear hv1 ho1 hb1
          go_wp2
          go_roundg (v / 2)
          case measure => omega
          case rel => exact ⟨v / 2, rfl, by have := HEV2.out; omega, by omega, by rw [gcd_half_right HEV2.out (by rw [HGX.out]; exact HG.out)]; exact HGX.out, HP.out.kept HB1.out, HoldsZ.of_gives hbs HV1.out HO1.out, HB.out.trans (HB1.out.mono (by omega))⟩
         ·have e1 := and_odd v (by omega)
          clear hev
          go_wp2_with fail
          refine (ref_cmp _ _ (dig z) (dig v) _ HP.out.rd HQ.out.rd).mono ?_
          rw [cmpL_dig]
          rintro e w1 ⟨rfl, k1, rfl⟩
          have HP := hid (HP.out.kept (w' := wr.drewN k1) (below_drewN (Below.refl _ _)))
          have HQ := hid (HQ.out.kept (w' := wr.drewN k1) (below_drewN (Below.refl _ _)))
          have HB := hid (below_drewN (n := k1) HB.out)
          by_cases hgt : v < z
          ·rw [sgn_gt hgt]
           go_wp2_with fail
           refine (ref_sub _ _ (dig z) (dig v) _ HP.out.rd HQ.out.rd (HLM.out z (by omega)) (by rw [val_dig, val_dig]; omega) (dig_length_mono (by omega))).mono ?_
           rintro e w2 ⟨a3, c3, rfl, hv3, ho3, hb3⟩
           rw [val_dig, val_dig] at hv3 ho3
           rw [val_dig, val_dig]
           have HV3 := hid hv3
           have HO3 := hid ho3
           have HB3 := hid hb3
           clear hv3 ho3 hb3
           go_wp2
           go_roundg z
           case measure => omega
           case rel => exact ⟨v, z - v, by omega, hv, by omega, by omega, by rw [gcd_sub_le (by omega), Nat.gcd_comm]; exact HGX.out, HQ.out.kept HB3.out, HoldsZ.of_gives hbs HV3.out HO3.out, HB.out.trans (HB3.out.mono hbs)⟩
          ·have hle : sgn z v ≤ 0 := by
            rcases Nat.lt_or_ge z v with h | h
            ·rw [sgn_lt h]; omega
            ·rw [show z = v from by omega, sgn_self]; omega
           generalize sgn z v = sg at *
           go_wp2_with fail
           refine (ref_sub _ _ (dig v) (dig z) _ HQ.out.rd HP.out.rd (HLM.out v (by omega)) (by rw [val_dig, val_dig]; omega) (dig_length_mono (by omega))).mono ?_
           rintro e w2 ⟨a3, c3, rfl, hv3, ho3, hb3⟩
           rw [val_dig, val_dig] at hv3 ho3
           rw [val_dig, val_dig]
           have HV3 := hid hv3
           have HO3 := hid ho3
           have HB3 := hid hb3
           clear hv3 ho3 hb3
           go_wp2
           go_roundg v
           case measure => omega
           case rel => exact ⟨z, v - z, by omega, hz, by omega, by omega, by rw [gcd_sub_le (by omega)]; exact HGX.out, HP.out.kept HB3.out, HoldsZ.of_gives hbs HV3.out HO3.out, HB.out.trans (HB3.out.mono hbs)⟩
     ·obtain rfl : y = 0 := by omega
      have hL0 : L2 = 0 := by omega
      subst hL0
      have HXG : Hid (x = G) := by have := HGX.out; rwa [Nat.gcd_zero_right] at this
      clear hL2 HGX
      have hGM : ∀ j, j ≤ k → G * 2 ^ j ≤ A := fun j hj => by
       have h1 : Nat.gcd A B ≤ A := Nat.gcd_le_left _ hA
       have h2 : G * 2 ^ j ≤ G * 2 ^ k := Nat.mul_le_mul_left _ (Nat.pow_le_pow_right (by omega) hj)
       rw [HAB.out] at h1
       omega
      have HGM := hid hGM
      clear hGM
      obtain ⟨wo, rfl⟩ : ∃ wo : World, wo = wr := ⟨_, rfl⟩
      go_wp2
      go_loopg [0, 5] k (fun N p kv wr => ∃ j : Nat, j = N ∧ kv = .int .i64 j ∧ j ≤ k ∧ HoldsZ us w.heap.size wr p (G * 2 ^ (k - j)) ∧ Below w.heap.size w wr)
      case atStart => exact ⟨k, rfl, rfl, Nat.le_refl _, by rw [Nat.sub_self, Nat.pow_zero, Nat.mul_one, ← HXG.out]; exact HP.out, HB.out⟩
      case round =>
       clear HP HQ HB hbs
       obtain ⟨j, rfl, rfl, hj, hpa, hbl⟩ := hrel
       have HP := hid hpa
       have HB := hid hbl
       have hbs := hbl.size
       clear hpa hbl
       by_cases hj0 : 0 < j
       ·go_wp2_with fail
        refine (ref_twice _ (dig (G * 2 ^ (k - j))) 0 _ HP.out.rd (HLA.out _ (HGM.out _ (by omega))) (by omega)).mono ?_
        rintro e w2 ⟨a3, c3, rfl, hv3, ho3, hb3⟩
        have e5 : 2 * val (dig (G * 2 ^ (k - j))) + 0 = G * 2 ^ (k - (j - 1)) := by
         rw [val_dig, show k - (j - 1) = (k - j) + 1 from by omega, Nat.pow_succ, Nat.add_zero, Nat.mul_comm 2, Nat.mul_assoc]
        rw [e5] at hv3 ho3
        rw [e5]
        have HV3 := hid hv3
        have HO3 := hid ho3
        have HB3 := hid hb3
        clear hv3 ho3 hb3 e5
        go_wp2
        go_roundg (j - 1)
        case measure => omega
        case rel => exact ⟨j - 1, rfl, by go_num, by omega, HoldsZ.of_gives hbs HV3.out HO3.out, HB.out.trans (HB3.out.mono hbs)⟩
       ·obtain rfl : j = 0 := by omega
        go_wp2
        go_ret
        exact ⟨_, rfl, by rw [HAB.out]; exact HP.out, HB.out⟩
theorem ref_gcd (u v : Value) (A B : Nat) (w : World) (hx : Rd32 w u (dig A)) (hy : Rd32 w v (dig B)) (hA : 0 < A) (hB : 0 < B) (hlA : (dig A).length ≤ 1073741824) (hlB : (dig B).length ≤ 1073741824) :
    Calls Tryz.prog 233 #[u, v] w (GivesS [u, v] w (Nat.gcd A B)) := by
  refine ref_gcd_from _ u v A B w ?_ ?_ hA hB hlA hlB
  · obtain ⟨a, c, rfl, h⟩ := hx
    exact ⟨a, c, rfl, ⟨a, c, rfl, h⟩, fun R _ h => h _ (by simp)⟩
  · obtain ⟨a, c, rfl, h⟩ := hy
    exact ⟨a, c, rfl, ⟨a, c, rfl, h⟩, fun R _ h => h _ (by simp)⟩
end Go.Proofs.YthblaeleogdfpaaGreatDoor.Fr

namespace Go.Proofs.YthblaeleogdfpaaGreatDoor.Fr
open Go.RowKit
def RdZ (w : World) (v : Value) (z : Int) : Prop :=
  ∃ a c, v = .agg #[.bool (decide (z < 0)), .slice a (dig z.natAbs).length c] ∧ Rd32 w (.slice a (dig z.natAbs).length c) (dig z.natAbs)
theorem RdZ.kept {w w' : World} {v : Value} {z : Int} (h : RdZ w v z) (hb : Below w.heap.size w w') : RdZ w' v z := by
  obtain ⟨a, c, e, h⟩ := h; exact ⟨a, c, e, h.kept hb⟩
theorem RdZ.alloc {w : World} {v : Value} {z : Int} (h : RdZ w v z) {o : Obj} : RdZ (w.alloc o) v z := h.kept ((Below.refl _ _).alloc (Nat.le_refl _) _)
def GivesI (us : List Value) (w : World) (z : Int) (e : Ending) (w' : World) : Prop :=
  ∃ a c, e = .returned (.agg #[.bool (decide (z < 0)), .slice a (dig z.natAbs).length c]) ∧ Rd32 w' (.slice a (dig z.natAbs).length c) (dig z.natAbs) ∧
    (∀ R, R < w.heap.size → (∀ u ∈ us, Off R u) → Off R (.slice a (dig z.natAbs).length c)) ∧ Below w.heap.size w w'
end Go.Proofs.YthblaeleogdfpaaGreatDoor.Fr
