/- Contracts of the reference's sum and difference of words. -/
import Derived.Test.YtfcccldofaleoaaGreatDoorRb
namespace Go.Proofs.YtfcccldofaleoaaGreatDoor.Fr
open Go.RowKit

/-- what holds ahead of round k of 'add' -/
def AddRel (w : World) (xs ys : List Nat) (o cv i : Value) (wr : World) (k c : Nat) : Prop :=
  ∃ zs : List Nat, zs.length = k ∧ Digs zs ∧ val zs + 4294967296 ^ k * c = vt xs k + vt ys k ∧ wr.ownsRow w.heap.size 133 1 o k (zs.map U32) ∧ Below w.heap.size w wr

set_option maxHeartbeats 1000000 in
theorem ref_add (u v : Value) (xs ys : List Nat) (w : World) (hx : Rd32 w u xs) (hy : Rd32 w v ys) (hlx : xs.length ≤ 1073741824) (hly : ys.length ≤ 1073741824) :
    Calls Tryz.prog 89 #[u, v] w (GivesL w (val xs + val ys)) := by
  obtain ⟨a, c, rfl, hc, hm, hxr, hxc⟩ := hx
  obtain ⟨a', c', rfl, hc', hm', hyr, hyc⟩ := hy
  unfold maxLen at hm hm'
  obtain ⟨i0, hi, hz0, hz1, hz2⟩ := info_parts info_u32
  obtain ⟨n, hn⟩ : ∃ n, n = xs.length := ⟨_, rfl⟩
  obtain ⟨n', hn'⟩ : ∃ n, n = ys.length := ⟨_, rfl⟩
  rw [← hn] at hc hxc hlx ⊢
  rw [← hn'] at hc' hyc hly ⊢
  have HN := hid hn
  have HN' := hid hn'
  have HX := hid hxr
  have HY := hid hyr
  have HXC := hid hxc
  have HYC := hid hyc
  clear hn hn' hxr hyr hxc hyc
  go_enter Tryz.func89, Tryz.ntmps89
  go_wp2
  go_loopw [5, 6, 7] (fun o cv i wr => ∃ k c : Nat, (k ≤ n ∨ k ≤ n') ∧ i = .int .i64 k ∧ cv = .int .u64 c ∧ c ≤ 1 ∧ AddRel w xs ys o cv i wr k c) (fun _ _ i _ => n + n' - (intOf i).toNat)
  case atStart => exact ⟨0, 0, by omega, rfl, rfl, by omega, [], rfl, Digs.nil, rfl, World.ownsRow_nil _ _ _ _, Below.refl _ _⟩
  case round =>
    obtain ⟨k, cy, hk, rfl, rfl, hcy, zs, hzl, hzd, hv, hown, hbl⟩ := hrel
    have HV := hid hv
    have HL := hid hzl
    have HD := hid hzd
    have hxk := HX.out k
    have hyk := HY.out k
    have HB := hid hbl
    have hbs := hbl.size
    clear hv hzl hzd hbl
    by_cases h1 : k < n
    · obtain ⟨b, o, rfl, hb, hcell⟩ := HXC.out (by omega)
      have hcx := (HB.out.cell (p := ⟨b, o + k, none⟩) hb).trans (hcell k h1)
      clear hcell
      have hst := hid (add_step (xs := xs) (ys := ys) HL.out HV.out)
      by_cases h2 : k < n'
      · obtain ⟨b', o', rfl, hb', hcell⟩ := HYC.out (by omega)
        have hcy' := (HB.out.cell (p := ⟨b', o' + k, none⟩) hb').trans (hcell k h2)
        clear hcell
        generalize xs.getD k 0 = x at *
        generalize ys.getD k 0 = y at *
        go_wp2_with (at_builtin; refine wpList_append_own _ rfl _ _ 45 rfl (w.heap.size) 133 i0 (.int .u32 0) 1 4 Tryz.underlying45 hi hz0 hz1 hz2 rfl (by decide) _ _ _ rfl (hown.alloc _) ⟨_, 0, none⟩ 1 1 [(.int .u32 (((cy : Int) + x + y) % 4294967296))] rfl rfl (cell_one_new _ _ _) (by intro u hu; simp at hu; subst hu; rfl) (by unfold maxLen; omega) (by omega) (by simp; omega) ?_)
        intro v' w1 hown' hgrow _
        have hbl' := hid (push_below HB.out (by omega) hown hgrow)
        clear hown hgrow hcx hcy'
        rw [show ((cy : Int) + x + y) % 4294967296 = ((cy + x + y) % 4294967296 : Nat) from by omega, map_snoc] at hown'
        go_wp2
        go_roundw
        case rel => exact ⟨k + 1, (cy + x + y) / 4294967296, by omega, by go_num, by go_num, by omega, zs ++ [(cy + x + y) % 4294967296], by simp [HL.out], HD.out.append (Digs.cons (by omega) Digs.nil), hst.out, hown', hbl'.out⟩
        case measure => simp [intOf]; omega
      · have h0 : ys.getD k 0 = 0 := getD_beyond (by have := HN'.out; omega)
        have hst2 := hst.out
        rw [h0, Nat.add_zero] at hst2
        clear hst h0 hyk
        have hst := hid hst2
        clear hst2
        generalize xs.getD k 0 = x at *
        go_wp2_with (at_builtin; refine wpList_append_own _ rfl _ _ 45 rfl (w.heap.size) 133 i0 (.int .u32 0) 1 4 Tryz.underlying45 hi hz0 hz1 hz2 rfl (by decide) _ _ _ rfl (hown.alloc _) ⟨_, 0, none⟩ 1 1 [(.int .u32 (((cy : Int) + x) % 4294967296))] rfl rfl (cell_one_new _ _ _) (by intro u hu; simp at hu; subst hu; rfl) (by unfold maxLen; omega) (by omega) (by simp; omega) ?_)
        intro v' w1 hown' hgrow _
        have hbl' := hid (push_below HB.out (by omega) hown hgrow)
        clear hown hgrow hcx
        rw [show ((cy : Int) + x) % 4294967296 = ((cy + x) % 4294967296 : Nat) from by omega, map_snoc] at hown'
        go_wp2
        go_roundw
        case rel => exact ⟨k + 1, (cy + x) / 4294967296, by omega, by go_num, by go_num, by omega, zs ++ [(cy + x) % 4294967296], by simp [HL.out], HD.out.append (Digs.cons (by omega) Digs.nil), hst.out, hown', hbl'.out⟩
        case measure => simp [intOf]; omega
    · by_cases h2 : k < n'
      · obtain ⟨b, o, rfl, hb, hcell⟩ := HYC.out (by omega)
        have hcx := (HB.out.cell (p := ⟨b, o + k, none⟩) hb).trans (hcell k h2)
        clear hcell
        have h0 : xs.getD k 0 = 0 := getD_beyond (by have := HN.out; omega)
        have hst2 := add_step (xs := xs) (ys := ys) HL.out HV.out
        rw [h0, Nat.add_zero] at hst2
        clear h0 hxk
        have hst := hid hst2
        clear hst2
        generalize ys.getD k 0 = x at *
        go_wp2_with (at_builtin; refine wpList_append_own _ rfl _ _ 45 rfl (w.heap.size) 133 i0 (.int .u32 0) 1 4 Tryz.underlying45 hi hz0 hz1 hz2 rfl (by decide) _ _ _ rfl (hown.alloc _) ⟨_, 0, none⟩ 1 1 [(.int .u32 (((cy : Int) + x) % 4294967296))] rfl rfl (cell_one_new _ _ _) (by intro u hu; simp at hu; subst hu; rfl) (by unfold maxLen; omega) (by omega) (by simp; omega) ?_)
        intro v' w1 hown' hgrow _
        have hbl' := hid (push_below HB.out (by omega) hown hgrow)
        clear hown hgrow hcx
        rw [show ((cy : Int) + x) % 4294967296 = ((cy + x) % 4294967296 : Nat) from by omega, map_snoc] at hown'
        go_wp2
        go_roundw
        case rel => exact ⟨k + 1, (cy + x) / 4294967296, by omega, by go_num, by go_num, by omega, zs ++ [(cy + x) % 4294967296], by simp [HL.out], HD.out.append (Digs.cons (by omega) Digs.nil), hst.out, hown', hbl'.out⟩
        case measure => simp [intOf]; omega
      · go_wp2_with (at_builtin; refine wpList_append_own _ rfl _ _ 45 rfl (w.heap.size) 133 i0 (.int .u32 0) 1 4 Tryz.underlying45 hi hz0 hz1 hz2 rfl (by decide) _ _ _ rfl (hown.alloc _) ⟨_, 0, none⟩ 1 1 [(.int .u32 (cy : Int))] rfl rfl (cell_one_new _ _ _) (by intro u hu; simp at hu; subst hu; rfl) (by unfold maxLen; omega) (by omega) (by simp; omega) ?_)
        intro v' w1 hown' hgrow _
        have hbl' := hid (push_below HB.out (by omega) hown hgrow)
        clear hown hgrow
        rw [map_snoc] at hown'
        go_wp2
        go_ret
        refine givesL_of hown' (HD.out.append (Digs.cons (by omega) Digs.nil)) ?_ hbl'.out
        rw [val_snoc, HL.out, HV.out, vt_all xs k (by have := HN.out; omega), vt_all ys k (by have := HN'.out; omega)]

set_option maxHeartbeats 1000000 in
theorem ref_sub (u v : Value) (xs ys : List Nat) (w : World) (hx : Rd32 w u xs) (hy : Rd32 w v ys) (hlx : xs.length ≤ 1073741824) (hle : val ys ≤ val xs) (hll : ys.length ≤ xs.length) :
    Calls Tryz.prog 90 #[u, v] w (GivesD w (val xs - val ys)) := by
  obtain ⟨a, c, rfl, hc, hm, hxr, hxc⟩ := hx
  obtain ⟨a', c', rfl, hc', hm', hyr, hyc⟩ := hy
  unfold maxLen at hm hm'
  obtain ⟨i0, hi, hz0, hz1, hz2⟩ := info_parts info_u32
  obtain ⟨n, hn⟩ : ∃ n, n = xs.length := ⟨_, rfl⟩
  obtain ⟨n', hn'⟩ : ∃ n, n = ys.length := ⟨_, rfl⟩
  rw [← hn] at hc hxc hlx hll ⊢
  rw [← hn'] at hc' hyc hll ⊢
  have HN := hid hn
  have HN' := hid hn'
  have HX := hid hxr
  have HY := hid hyr
  have HXC := hid hxc
  have HYC := hid hyc
  have HLE := hid hle
  clear hn hn' hxr hyr hxc hyc hle
  go_enter Tryz.func90, Tryz.ntmps90
  go_wp2
  go_loopw [5, 6, 7] (fun o cv i wr => ∃ k q : Nat, k ≤ n ∧ i = .int .i64 k ∧ cv = .int .i64 (-(q : Int)) ∧ q ≤ 1 ∧ ∃ zs : List Nat, zs.length = k ∧ Digs zs ∧ val zs + vt ys k = vt xs k + 4294967296 ^ k * q ∧ wr.ownsRow w.heap.size 133 1 o k (zs.map U32) ∧ Below w.heap.size w wr) (fun _ _ i _ => n - (intOf i).toNat)
  case atStart => exact ⟨0, 0, by omega, rfl, rfl, by omega, [], rfl, Digs.nil, rfl, World.ownsRow_nil _ _ _ _, Below.refl _ _⟩
  case round =>
    obtain ⟨k, q, hk, rfl, rfl, hq, zs, hzl, hzd, hv, hown, hbl⟩ := hrel
    have HV := hid hv
    have HL := hid hzl
    have HD := hid hzd
    have hxk := HX.out k
    have hyk := HY.out k
    have HB := hid hbl
    have hbs := hbl.size
    clear hv hzl hzd hbl
    by_cases h1 : k < n
    · obtain ⟨b, o, rfl, hb, hcell⟩ := HXC.out (by omega)
      have hcx := (HB.out.cell (p := ⟨b, o + k, none⟩) hb).trans (hcell k h1)
      clear hcell
      by_cases h2 : k < n'
      · obtain ⟨b', o', rfl, hb', hcell⟩ := HYC.out (by omega)
        have hcy' := (HB.out.cell (p := ⟨b', o' + k, none⟩) hb').trans (hcell k h2)
        clear hcell
        have hdig := sub_digit (xs.getD k 0) (ys.getD k 0) q hxk hyk hq
        obtain ⟨d, q', hd, hq', he, hd1, hd2⟩ := hdig
        have hst := hid (sub_step (xs := xs) (ys := ys) HL.out HV.out he)
        have HD1 := hid hd1
        have HD2 := hid hd2
        clear he hd1 hd2
        generalize xs.getD k 0 = x at *
        generalize ys.getD k 0 = y at *
        go_wp2_with (at_builtin; refine wpList_append_own _ rfl _ _ 45 rfl (w.heap.size) 133 i0 (.int .u32 0) 1 4 Tryz.underlying45 hi hz0 hz1 hz2 rfl (by decide) _ _ _ rfl (hown.alloc _) ⟨_, 0, none⟩ 1 1 [(.int .u32 ((-(q : Int) + x - y) % 4294967296))] rfl rfl (cell_one_new _ _ _) (by intro u hu; simp at hu; subst hu; rfl) (by unfold maxLen; omega) (by omega) (by simp; omega) ?_)
        intro v' w1 hown' hgrow _
        have hbl' := hid (push_below HB.out (by omega) hown hgrow)
        clear hown hgrow hcx
        rw [HD1.out, map_snoc] at hown'
        go_wp2
        rw [HD2.out]
        go_roundw
        case rel => exact ⟨k + 1, q', by omega, by go_num, rfl, by omega, zs ++ [d], by simp [HL.out], HD.out.append (Digs.cons (by omega) Digs.nil), hst.out, hown', hbl'.out⟩
        case measure => simp [intOf]; omega
      · have h0 : ys.getD k 0 = 0 := getD_beyond (by have := HN'.out; omega)
        obtain ⟨d, q', hd, hq', he, hd1, hd2⟩ := sub_digit (xs.getD k 0) 0 q hxk (by omega) hq
        have hst := hid (sub_step (xs := xs) (ys := ys) HL.out HV.out (d := d) (q' := q') (by rw [h0]; exact he))
        rw [show (-(q : Int) + (xs.getD k 0 : Nat) - (0 : Nat)) = -(q : Int) + (xs.getD k 0 : Nat) from by omega] at hd1 hd2
        have HD1 := hid hd1
        have HD2 := hid hd2
        clear he hd1 hd2 h0 hyk
        generalize xs.getD k 0 = x at *
        go_wp2_with (at_builtin; refine wpList_append_own _ rfl _ _ 45 rfl (w.heap.size) 133 i0 (.int .u32 0) 1 4 Tryz.underlying45 hi hz0 hz1 hz2 rfl (by decide) _ _ _ rfl (hown.alloc _) ⟨_, 0, none⟩ 1 1 [(.int .u32 ((-(q : Int) + x) % 4294967296))] rfl rfl (cell_one_new _ _ _) (by intro u hu; simp at hu; subst hu; rfl) (by unfold maxLen; omega) (by omega) (by simp; omega) ?_)
        intro v' w1 hown' hgrow _
        have hbl' := hid (push_below HB.out (by omega) hown hgrow)
        clear hown hgrow hcx
        rw [HD1.out, map_snoc] at hown'
        go_wp2
        rw [HD2.out]
        go_roundw
        case rel => exact ⟨k + 1, q', by omega, by go_num, rfl, by omega, zs ++ [d], by simp [HL.out], HD.out.append (Digs.cons (by omega) Digs.nil), hst.out, hown', hbl'.out⟩
        case measure => simp [intOf]; omega
    · have hfin : val zs = val xs - val ys := by
        have h1' := HV.out
        rw [vt_all xs k (by have := HN.out; omega), vt_all ys k (by have := HN'.out; omega)] at h1'
        exact sub_done HL.out HD.out h1' HLE.out hq
      have HF := hid hfin
      clear hfin
      obtain ⟨hr1, hr2, _, ra, rc, rfl⟩ := rd_of_owns hown HD.out
      have HR1 := hid hr1
      have HR2 := hid hr2
      clear hr1 hr2 hown
      go_wp2_with fail
      refine (ref_trim _ _ _ HR1.out).mono ?_
      rintro e w' ⟨a2, c2, rfl, hv2, ho2, k2, rfl⟩
      rw [HF.out] at hv2 ho2
      rw [HF.out]
      have HV2 := hid (hv2 _ HR1.out)
      have HO2 := hid ho2
      clear hv2 ho2
      go_wp2
      go_ret
      exact ⟨_, _, rfl, HV2.out, fun R hR => HO2.out R (HR2.out R hR), below_drewN HB.out⟩

end Go.Proofs.YtfcccldofaleoaaGreatDoor.Fr
