/- Contract of words.plus. Contracts of fraction's product, opposite, sum. -/
import Derived.Deep.Cut
import Derived.Deep.RegionHeld3
import Derived.Test.YtikiimlmoalbcaaGreatDoorCoFax
import Derived.Test.YtikiimlmoalbcaaGreatDoorCoFaj
set_option linter.unusedVariables false
set_option linter.unusedSimpArgs false
namespace Go.Proofs.YtikiimlmoalbcaaGreatDoor.Fr
open Go.RowKit
set_option maxRecDepth 100000 in
set_option maxHeartbeats 2000000 in
theorem frac_plusA (u v : Value) (xs ys : List Nat) (w : World) (hx : Rd32 w u xs) (hy : Rd32 w v ys) (hlx : xs.length ≤ 1073741824) (hly : ys.length ≤ 1073741824) (h : xs.length < ys.length) :
  Calls Tryz.prog 174 #[u, v] w (GivesD w (val xs + val ys)) := by
 have HAX := hid (fun k (hk : k ≤ 1073741824) W (hW : Below w.heap.size w W) => frac_at u xs k W (hx.kept hW) (by omega))
 have HAY := hid (fun k (hk : k ≤ 1073741824) W (hW : Below w.heap.size w W) => frac_at v ys k W (hy.kept hW) (by omega))
 obtain ⟨a, c, rfl, hc, hm, hxr, hxc⟩ := hx
 obtain ⟨a', c', rfl, hc', hm', hyr, hyc⟩ := hy
 unfold maxLen at hm hm'
 obtain ⟨i0, hi, hz0, hz1, hz2⟩ := info_parts info_u32
 obtain ⟨n, hn⟩ : ∃ n, n = xs.length := ⟨_, rfl⟩
 obtain ⟨n', hn'⟩ : ∃ n, n = ys.length := ⟨_, rfl⟩
 rw [← hn] at hc hlx HAX h ⊢
 rw [← hn'] at hc' hly HAY h ⊢
 have HN := hid hn
 have HN' := hid hn'
 have HX := hid hxr
 have HY := hid hyr
 clear hn hn' hxr hyr hxc hyc
 go_enter Tryz.func174, Tryz.ntmps174
 go_wp2_with (at_make; refine wpList_make_own _ rfl _ _ 163 rfl w.heap.size 132 i0 (.int .u32 0) 1 Tryz.underlying163 hi hz0 hz1 .i64 .i64 _ (n' + 1) rfl rfl (by first | rfl | omega) (by rw [hz2]; omega) (by unfold maxLen; omega) (Nat.le_refl _) ?_; intro w1 hown1 hgrow1)
 have hb1 : Below w.heap.size w w1 := (Below.refl _ _).grown hgrow1 (Nat.le_refl _) (fun k hk => by cases hk)
 have HB1 := hid hb1
 clear hb1 hgrow1
 go_wp2_with fail
 go_loopw [5, 6, 21] (fun o cv i wr => ∃ k c : Nat, k ≤ n' ∧ i = .int .i64 k ∧ cv = .int .u32 (c : Int) ∧ c ≤ 1 ∧ AddRel w xs ys o cv i wr k c) (fun _ _ i _ => n' - (intOf i).toNat)
 case atStart => exact ⟨0, 0, by omega, rfl, rfl, by omega, [], rfl, Digs.nil, rfl, hown1, HB1.out⟩
 case round =>
  clear hown1 HB1
  obtain ⟨k, cy, hk, rfl, rfl, hcy, zs, hzl, hzd, hv, hown, hbl⟩ := hrel
  have HV := hid hv
  have HL := hid hzl
  have HD := hid hzd
  have HB := hid hbl
  have hbs := hbl.size
  clear hv hzl hzd hbl
  by_cases h1 : k < n'
  ·have hxk := HX.out k
   have hyk := HY.out k
   have HA1 := hid (fun W (hW : Below w.heap.size w W) => HAX.out k (by omega) W hW)
   have HA2 := hid (fun W (hW : Below w.heap.size w W) => HAY.out k (by omega) W hW)
   have HST := hid (add_step (xs := xs) (ys := ys) HL.out HV.out)
   have HS := hid (bits_Add32 (xs.getD k 0) (ys.getD k 0) cy hxk hyk hcy)
   have e1 : cy + xs.getD k 0 + ys.getD k 0 = xs.getD k 0 + ys.getD k 0 + cy := by omega
   rw [e1] at HST
   have hd1 : (xs.getD k 0 + ys.getD k 0 + cy) % 4294967296 < 4294967296 := Nat.mod_lt _ (by omega)
   have hd2 : (xs.getD k 0 + ys.getD k 0 + cy) / 4294967296 ≤ 1 := by omega
   generalize (xs.getD k 0 + ys.getD k 0 + cy) % 4294967296 = d at *
   generalize (xs.getD k 0 + ys.getD k 0 + cy) / 4294967296 = q at *
   clear e1
   generalize xs.getD k 0 = x at *
   generalize ys.getD k 0 = y at *
   have HOWN := hid hown
   clear hown
   go_wp2_with fail
   with_reducible refine (HA1.out _ HB.out).mono ?_
   rintro e w2 ⟨rfl, rfl⟩
   go_wp2_with fail
   with_reducible refine (HA2.out _ HB.out).mono ?_
   rintro e w2 ⟨rfl, rfl⟩
   go_wp2_with fail
   with_reducible refine (HS.out _).mono ?_
   rintro e w2 ⟨rfl, rfl⟩
   have hown := HOWN.out
   go_wp2_with (at_builtin; refine wpList_append_own _ rfl _ _ 163 rfl (w.heap.size) 132 i0 (.int .u32 0) 1 4 Tryz.underlying163 hi hz0 hz1 hz2 rfl (by decide) _ _ _ rfl (hown.alloc _) ⟨_, 0, none⟩ 1 1 [(.int .u32 (d : Int))] rfl rfl (cell_one_new _ _ _) (by intro u hu; simp at hu; subst hu; rfl) (by unfold maxLen; omega) (by omega) (by simp; omega) ?_)
   intro v' w1 hown' hgrow _
   have hbl' := hid (push_below HB.out (by omega) hown hgrow)
   clear hown hgrow
   rw [map_snoc] at hown'
   go_wp2
   go_roundw
   case rel => exact ⟨k + 1, q, by omega, by go_num, rfl, hd2, zs ++ [d], by simp [HL.out], HD.out.append (Digs.cons hd1 Digs.nil), HST.out, hown', hbl'.out⟩
   case measure => simp [intOf]; omega
  ·go_wp2_with (at_builtin; refine wpList_append_own _ rfl _ _ 163 rfl (w.heap.size) 132 i0 (.int .u32 0) 1 4 Tryz.underlying163 hi hz0 hz1 hz2 rfl (by decide) _ _ _ rfl (hown.alloc _) ⟨_, 0, none⟩ 1 1 [(.int .u32 (cy : Int))] rfl rfl (cell_one_new _ _ _) (by intro u hu; simp at hu; subst hu; rfl) (by unfold maxLen; omega) (by omega) (by simp; omega) ?_)
   intro v' w1 hown' hgrow _
   have hbl' := hid (push_below HB.out (by omega) hown hgrow)
   clear hown hgrow
   rw [map_snoc] at hown'
   have hfin : val (zs ++ [cy]) = val xs + val ys := by rw [val_snoc, HL.out, HV.out, vt_all xs k (by have := HN.out; omega), vt_all ys k (by have := HN'.out; omega)]
   have HF := hid hfin
   obtain ⟨hr1, hr2, _, ra, rc, rfl⟩ := rd_of_owns hown' (HD.out.append (Digs.cons (by omega) Digs.nil))
   have HR1 := hid hr1
   have HR2 := hid hr2
   clear hr1 hr2 hown' hfin
   go_wp2_with fail
   refine (frac_trimmed _ _ _ HR1.out).mono ?_
   rintro e w' ⟨a2, c2, rfl, hv2, ho2, k2, rfl⟩
   rw [HF.out] at hv2 ho2
   rw [HF.out]
   have HV2 := hid (hv2 _ HR1.out)
   have HO2 := hid ho2
   clear hv2 ho2
   go_wp2
   go_ret
   exact ⟨_, _, rfl, HV2.out, fun R hR => HO2.out R (HR2.out R hR), below_drewN hbl'.out⟩
set_option maxRecDepth 100000 in
set_option maxHeartbeats 2000000 in
theorem frac_plusB (u v : Value) (xs ys : List Nat) (w : World) (hx : Rd32 w u xs) (hy : Rd32 w v ys) (hlx : xs.length ≤ 1073741824) (hly : ys.length ≤ 1073741824) (h : ¬ xs.length < ys.length) :
  Calls Tryz.prog 174 #[u, v] w (GivesD w (val xs + val ys)) := by
 have HAX := hid (fun k (hk : k ≤ 1073741824) W (hW : Below w.heap.size w W) => frac_at u xs k W (hx.kept hW) (by omega))
 have HAY := hid (fun k (hk : k ≤ 1073741824) W (hW : Below w.heap.size w W) => frac_at v ys k W (hy.kept hW) (by omega))
 obtain ⟨a, c, rfl, hc, hm, hxr, hxc⟩ := hx
 obtain ⟨a', c', rfl, hc', hm', hyr, hyc⟩ := hy
 unfold maxLen at hm hm'
 obtain ⟨i0, hi, hz0, hz1, hz2⟩ := info_parts info_u32
 obtain ⟨n, hn⟩ : ∃ n, n = xs.length := ⟨_, rfl⟩
 obtain ⟨n', hn'⟩ : ∃ n, n = ys.length := ⟨_, rfl⟩
 rw [← hn] at hc hlx HAX h ⊢
 rw [← hn'] at hc' hly HAY h ⊢
 have HN := hid hn
 have HN' := hid hn'
 have HX := hid hxr
 have HY := hid hyr
 clear hn hn' hxr hyr hxc hyc
 go_enter Tryz.func174, Tryz.ntmps174
 go_wp2_with (at_make; refine wpList_make_own _ rfl _ _ 163 rfl w.heap.size 132 i0 (.int .u32 0) 1 Tryz.underlying163 hi hz0 hz1 .i64 .i64 _ (n + 1) rfl rfl (by first | rfl | omega) (by rw [hz2]; omega) (by unfold maxLen; omega) (Nat.le_refl _) ?_; intro w1 hown1 hgrow1)
 have hb1 : Below w.heap.size w w1 := (Below.refl _ _).grown hgrow1 (Nat.le_refl _) (fun k hk => by cases hk)
 have HB1 := hid hb1
 clear hb1 hgrow1
 go_wp2_with fail
 go_loopw [5, 6, 21] (fun o cv i wr => ∃ k c : Nat, k ≤ n ∧ i = .int .i64 k ∧ cv = .int .u32 (c : Int) ∧ c ≤ 1 ∧ AddRel w xs ys o cv i wr k c) (fun _ _ i _ => n - (intOf i).toNat)
 case atStart => exact ⟨0, 0, by omega, rfl, rfl, by omega, [], rfl, Digs.nil, rfl, hown1, HB1.out⟩
 case round =>
  clear hown1 HB1
  obtain ⟨k, cy, hk, rfl, rfl, hcy, zs, hzl, hzd, hv, hown, hbl⟩ := hrel
  have HV := hid hv
  have HL := hid hzl
  have HD := hid hzd
  have HB := hid hbl
  have hbs := hbl.size
  clear hv hzl hzd hbl
  by_cases h1 : k < n
  ·have hxk := HX.out k
   have hyk := HY.out k
   have HA1 := hid (fun W (hW : Below w.heap.size w W) => HAX.out k (by omega) W hW)
   have HA2 := hid (fun W (hW : Below w.heap.size w W) => HAY.out k (by omega) W hW)
   have HST := hid (add_step (xs := xs) (ys := ys) HL.out HV.out)
   have HS := hid (bits_Add32 (xs.getD k 0) (ys.getD k 0) cy hxk hyk hcy)
   have e1 : cy + xs.getD k 0 + ys.getD k 0 = xs.getD k 0 + ys.getD k 0 + cy := by omega
   rw [e1] at HST
   have hd1 : (xs.getD k 0 + ys.getD k 0 + cy) % 4294967296 < 4294967296 := Nat.mod_lt _ (by omega)
   have hd2 : (xs.getD k 0 + ys.getD k 0 + cy) / 4294967296 ≤ 1 := by omega
   generalize (xs.getD k 0 + ys.getD k 0 + cy) % 4294967296 = d at *
   generalize (xs.getD k 0 + ys.getD k 0 + cy) / 4294967296 = q at *
   clear e1
   generalize xs.getD k 0 = x at *
   generalize ys.getD k 0 = y at *
   have HOWN := hid hown
   clear hown
   go_wp2_with fail
   with_reducible refine (HA1.out _ HB.out).mono ?_
   rintro e w2 ⟨rfl, rfl⟩
   go_wp2_with fail
   with_reducible refine (HA2.out _ HB.out).mono ?_
   rintro e w2 ⟨rfl, rfl⟩
   go_wp2_with fail
   with_reducible refine (HS.out _).mono ?_
   rintro e w2 ⟨rfl, rfl⟩
   have hown := HOWN.out
   go_wp2_with (at_builtin; refine wpList_append_own _ rfl _ _ 163 rfl (w.heap.size) 132 i0 (.int .u32 0) 1 4 Tryz.underlying163 hi hz0 hz1 hz2 rfl (by decide) _ _ _ rfl (hown.alloc _) ⟨_, 0, none⟩ 1 1 [(.int .u32 (d : Int))] rfl rfl (cell_one_new _ _ _) (by intro u hu; simp at hu; subst hu; rfl) (by unfold maxLen; omega) (by omega) (by simp; omega) ?_)
   intro v' w1 hown' hgrow _
   have hbl' := hid (push_below HB.out (by omega) hown hgrow)
   clear hown hgrow
   rw [map_snoc] at hown'
   go_wp2
   go_roundw
   case rel => exact ⟨k + 1, q, by omega, by go_num, rfl, hd2, zs ++ [d], by simp [HL.out], HD.out.append (Digs.cons hd1 Digs.nil), HST.out, hown', hbl'.out⟩
   case measure => simp [intOf]; omega
  ·go_wp2_with (at_builtin; refine wpList_append_own _ rfl _ _ 163 rfl (w.heap.size) 132 i0 (.int .u32 0) 1 4 Tryz.underlying163 hi hz0 hz1 hz2 rfl (by decide) _ _ _ rfl (hown.alloc _) ⟨_, 0, none⟩ 1 1 [(.int .u32 (cy : Int))] rfl rfl (cell_one_new _ _ _) (by intro u hu; simp at hu; subst hu; rfl) (by unfold maxLen; omega) (by omega) (by simp; omega) ?_)
   intro v' w1 hown' hgrow _
   have hbl' := hid (push_below HB.out (by omega) hown hgrow)
   clear hown hgrow
   rw [map_snoc] at hown'
   have hfin : val (zs ++ [cy]) = val xs + val ys := by rw [val_snoc, HL.out, HV.out, vt_all xs k (by have := HN.out; omega), vt_all ys k (by have := HN'.out; omega)]
   have HF := hid hfin
   obtain ⟨hr1, hr2, _, ra, rc, rfl⟩ := rd_of_owns hown' (HD.out.append (Digs.cons (by omega) Digs.nil))
   have HR1 := hid hr1
   have HR2 := hid hr2
   clear hr1 hr2 hown' hfin
   go_wp2_with fail
   refine (frac_trimmed _ _ _ HR1.out).mono ?_
   rintro e w' ⟨a2, c2, rfl, hv2, ho2, k2, rfl⟩
   rw [HF.out] at hv2 ho2
   rw [HF.out]
   have HV2 := hid (hv2 _ HR1.out)
   have HO2 := hid ho2
   clear hv2 ho2
   go_wp2
   go_ret
   exact ⟨_, _, rfl, HV2.out, fun R hR => HO2.out R (HR2.out R hR), below_drewN hbl'.out⟩
theorem frac_plus (u v : Value) (xs ys : List Nat) (w : World) (hx : Rd32 w u xs) (hy : Rd32 w v ys) (hlx : xs.length ≤ 1073741824) (hly : ys.length ≤ 1073741824) :
    Calls Tryz.prog 174 #[u, v] w (GivesD w (val xs + val ys)) := by
  by_cases h : xs.length < ys.length
  · exact frac_plusA u v xs ys w hx hy hlx hly h
  · exact frac_plusB u v xs ys w hx hy hlx hly h
end Go.Proofs.YtikiimlmoalbcaaGreatDoor.Fr

namespace Go.Proofs.YtikiimlmoalbcaaGreatDoor.Fr
open Go.RowKit
set_option maxRecDepth 100000 in
set_option maxHeartbeats 2000000 in
theorem frac_product (u v : Value) (m n : Nat) (w : World) (hu : RdB w u false (dig m)) (hv : RdB w v false (dig n)) (hlm : (dig m).length ≤ 1048576) (hln : (dig n).length ≤ 1048576) (hlp : (dig (m * n)).length ≤ 1073741824) :
  Calls Tryz.prog 140 #[u, v] w (GivesZ [] w false (m * n)) := by
 obtain ⟨a, c, rfl, hu⟩ := hu
 obtain ⟨a', c', rfl, hv⟩ := hv
 have HTI := hid (fun W (hW : Below w.heap.size w W) => frac_times _ _ (dig m) (dig n) W (hu.kept hW) (hv.kept hW) (by omega) (by omega))
 rw [val_dig, val_dig] at HTI
 have HSG := hid (fun W s (hs : Rd32 W s (dig (m * n))) => frac_signed false s (m * n) W hs hlp)
 clear hu hv
 generalize (dig m).length = l1 at *
 generalize (dig n).length = l2 at *
 generalize m * n = p at *
 have hx1 := ((BoxN.new w #[.bool false, .slice a l1 c] 43).alloc (.cells #[.bool false, .slice a' l2 c'] 43)).alloc (.cells #[.bool false, .slice none 0 0] 43)
 have HX1 := hid hx1
 have hx2 := (BoxN.new (w.alloc (.cells #[.bool false, .slice a l1 c] 43)) #[.bool false, .slice a' l2 c'] 43).alloc (.cells #[.bool false, .slice none 0 0] 43)
 rw [World.size_alloc] at hx2
 have HX2 := hid hx2
 have hx3 := BoxN.new ((w.alloc (.cells #[.bool false, .slice a l1 c] 43)).alloc (.cells #[.bool false, .slice a' l2 c'] 43)) #[.bool false, .slice none 0 0] 43
 rw [World.size_alloc, World.size_alloc] at hx3
 have HX3 := hid hx3
 have HB0 := hid ((((Below.refl w.heap.size w).alloc (Nat.le_refl _) (.cells #[.bool false, .slice a l1 c] 43)).alloc (by simp) (.cells #[.bool false, .slice a' l2 c'] 43)).alloc (by simp; omega) (.cells #[.bool false, .slice none 0 0] 43))
 clear hx1 hx2 hx3
 go_enter Tryz.func140, Tryz.ntmps140
 go_upto_region 1 with fail
 generalize (((w.alloc (.cells #[.bool false, .slice a l1 c] 43)).alloc (.cells #[.bool false, .slice a' l2 c'] 43)).alloc (.cells #[.bool false, .slice none 0 0] 43)) = W0 at *
 have hz0 := HX3.out.lt
 have HG := hid (fun W (hW : Below W0.heap.size W0 W) => (⟨(HX1.out.below hW HX1.out.lt).cell 0 rfl, (HX1.out.below hW HX1.out.lt).cell 1 rfl, (HX2.out.below hW HX2.out.lt).cell 0 rfl, (HX2.out.below hW HX2.out.lt).cell 1 rfl⟩ : W.cell? ⟨w.heap.size, 0, none⟩ = some (.bool false) ∧ W.cell? ⟨w.heap.size, 1, none⟩ = some (.slice a l1 c) ∧ W.cell? ⟨w.heap.size + 1, 0, none⟩ = some (.bool false) ∧ W.cell? ⟨w.heap.size + 1, 1, none⟩ = some (.slice a' l2 c')))
 have HG2 := hid (fun W (hW : Below W0.heap.size W0 W) (x y : Value) => (⟨(((HX1.out.below hW HX1.out.lt).other (p := ⟨w.heap.size + 2, 0, none⟩) (by show w.heap.size + 2 ≠ w.heap.size; omega) x).other (p := ⟨w.heap.size + 2, 1, none⟩) (by show w.heap.size + 2 ≠ w.heap.size; omega) y).cell 0 rfl, (((HX1.out.below hW HX1.out.lt).other (p := ⟨w.heap.size + 2, 0, none⟩) (by show w.heap.size + 2 ≠ w.heap.size; omega) x).other (p := ⟨w.heap.size + 2, 1, none⟩) (by show w.heap.size + 2 ≠ w.heap.size; omega) y).cell 1 rfl, (((HX2.out.below hW HX2.out.lt).other (p := ⟨w.heap.size + 2, 0, none⟩) (by show w.heap.size + 2 ≠ w.heap.size + 1; omega) x).other (p := ⟨w.heap.size + 2, 1, none⟩) (by show w.heap.size + 2 ≠ w.heap.size + 1; omega) y).cell 0 rfl, (((HX2.out.below hW HX2.out.lt).other (p := ⟨w.heap.size + 2, 0, none⟩) (by show w.heap.size + 2 ≠ w.heap.size + 1; omega) x).other (p := ⟨w.heap.size + 2, 1, none⟩) (by show w.heap.size + 2 ≠ w.heap.size + 1; omega) y).cell 1 rfl⟩ : ((W.setCell ⟨w.heap.size + 2, 0, none⟩ x).setCell ⟨w.heap.size + 2, 1, none⟩ y).cell? ⟨w.heap.size, 0, none⟩ = some (.bool false) ∧ ((W.setCell ⟨w.heap.size + 2, 0, none⟩ x).setCell ⟨w.heap.size + 2, 1, none⟩ y).cell? ⟨w.heap.size, 1, none⟩ = some (.slice a l1 c) ∧ ((W.setCell ⟨w.heap.size + 2, 0, none⟩ x).setCell ⟨w.heap.size + 2, 1, none⟩ y).cell? ⟨w.heap.size + 1, 0, none⟩ = some (.bool false) ∧ ((W.setCell ⟨w.heap.size + 2, 0, none⟩ x).setCell ⟨w.heap.size + 2, 1, none⟩ y).cell? ⟨w.heap.size + 1, 1, none⟩ = some (.slice a' l2 c')))
 have HC := hid (show Below W0.heap.size W0 W0.drew by have h1 := Below.refl W0.heap.size W0; repeat' (first | (with_reducible exact Below.refl _ _) | (with_reducible assumption) | (with_reducible refine below_drewN ?_) | (with_reducible refine Below.alloc ?_ ?_ _) | (with_reducible refine Below.drew ?_) | (with_reducible refine Below.setCell ?_ ?_ _) | (with_reducible refine Below.trans ?_ (Below.mono (by with_reducible assumption) ?_)) | go_size))
 go_region_held3 (fun w' => w'.cell? ⟨w.heap.size, 0, none⟩ = some (.bool false) ∧ w'.cell? ⟨w.heap.size, 1, none⟩ = some (.slice a l1 c) ∧ w'.cell? ⟨w.heap.size + 1, 0, none⟩ = some (.bool false) ∧ w'.cell? ⟨w.heap.size + 1, 1, none⟩ = some (.slice a' l2 c'))
  (first | exact HG.out _ HC.out | exact HG2.out _ HC.out _ _ | go_keep)
  (first
   | (go_at_call 176; go_must (((with_reducible refine (HTI.out _ (HB0.out.trans (HC.out.mono HB0.out.size))).mono ?_); rintro e w5 ⟨a5, c5, rfl, hr5, ho5, hb5⟩; have HC := hid (HC.out.trans (hb5.mono HC.out.size)); have HS5 := hid HC.out.size; have HR5 := hid hr5; clear hr5 ho5 hb5)))
   | (go_at_call 173; go_must (((with_reducible refine (HSG.out _ _ HR5.out).mono ?_); rintro e w6 ⟨a6, c6, rfl, hr6, ho6, hb6⟩; have HC := hid (HC.out.trans (hb6.mono HC.out.size)); have HR6 := hid hr6; have HO6 := hid ho6; have hx6 := HX3.out.below HC.out hz0; have q0 := hx6.cell 0 rfl; have q1 := hx6.cell 1 rfl; have f0 := hx6.frozen 0; have f1 := hx6.frozen 1; clear hr6 ho6 hb6 hx6))))
 all_goals
  have hs5 := HS5.out
  go_wp2
  refine bodyPost_ret (by simp [results, Tryz.results140, go_sem, q0, q1]; rfl) rfl ?_
  exact ⟨a6, c6, rfl, (HR6.out.setCell (HO6.out _ (by simp; omega) (fun u hu => by cases hu))).setCell (HO6.out _ (by simp; omega) (fun u hu => by cases hu)), fun R hR _ => HO6.out R (by omega) (fun u hu => by cases hu), ((HB0.out.trans (HC.out.mono HB0.out.size)).setCell (by show w.heap.size ≤ w.heap.size + 2; omega) _).setCell (by show w.heap.size ≤ w.heap.size + 2; omega) _⟩
set_option maxHeartbeats 1000000 in
theorem frac_opposite (u : Value) (n : Nat) (w : World) (hu : RdB w u false (dig n)) :
    Calls Tryz.prog 141 #[u] w (fun e w' => ∃ v, e = .returned v ∧ Below w.heap.size w w' ∧ RdB w' v (decide (0 < n)) (dig n)) := by
  obtain ⟨a, c, rfl, hu⟩ := hu
  have HU := hid hu
  have hp : 0 < n ↔ 0 < (dig n).length := (dig_length_pos (n := n)).symm
  have hd : decide (0 < n) = decide (0 < (dig n).length) := by simp [hp]
  rw [hd]
  clear hu hp hd
  have HB0 := hid (((Below.refl w.heap.size w).alloc (Nat.le_refl _) (.cells #[.bool false, .slice a (dig n).length c] 43)).alloc (by simp) (.cells #[.bool false, .slice none 0 0] 43))
  have HR : Hid (∀ W, Below w.heap.size w W → RdB W (.agg #[.bool (decide (0 < (dig n).length)), .slice a (dig n).length c]) (decide (0 < (dig n).length)) (dig n)) := hid (fun W hW => ⟨a, c, rfl, HU.out.kept hW⟩)
  generalize (dig n).length = l at *
  by_cases h0 : 0 < l
  all_goals
    first | have hl : decide ((0 : Int) < (l : Int)) = true := decide_eq_true (by omega) | have hl : decide ((0 : Int) < (l : Int)) = false := decide_eq_false (by omega)
    go_enter Tryz.func141, Tryz.ntmps141
    go_wp2
    refine bodyPost_ret (v := .agg #[.bool (decide (0 < l)), .slice a l c]) (by simp [results, Tryz.results141, go_sem, h0]) rfl ⟨_, rfl, ?_, HR.out _ ?_⟩
    all_goals first | (have h1 := HB0.out; repeat' (first | (with_reducible exact Below.refl _ _) | (with_reducible assumption) | (with_reducible refine below_drewN ?_) | (with_reducible refine Below.alloc ?_ ?_ _) | (with_reducible refine Below.drew ?_) | (with_reducible refine Below.setCell ?_ ?_ _) | (with_reducible refine Below.trans ?_ (Below.mono (by with_reducible assumption) ?_)) | go_size)) | skip
end Go.Proofs.YtikiimlmoalbcaaGreatDoor.Fr
