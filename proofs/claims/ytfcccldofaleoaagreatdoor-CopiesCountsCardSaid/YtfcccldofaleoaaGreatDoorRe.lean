/- Contracts of the reference's doubling and halving of words. -/
import Derived.Test.YtfcccldofaleoaaGreatDoorRd
namespace Go.Proofs.YtfcccldofaleoaaGreatDoor.Fr
open Go.RowKit

theorem twice_digit (x q : Nat) (hx : x < 4294967296) (hq : q ≤ 1) : ∃ D q', D < 4294967296 ∧ q' ≤ 1 ∧ D + 4294967296 * q' = 2 * x + q ∧ bits BinOp.or IntKind.u32 ((x : Int) * 2 % 4294967296) (q : Int) = (D : Int) ∧ (x : Int) / 2147483648 = (q' : Int) := by
  refine ⟨x * 2 % 4294967296 + q, x / 2147483648, by omega, by omega, by omega, ?_, by omega⟩
  rw [show ((x : Int) * 2 % 4294967296) = ((x * 2 % 4294967296 : Nat) : Int) from by omega, u32_or_nat _ _ (by omega) (by omega), nat_join1 _ _ (by omega) (by omega)]

set_option maxHeartbeats 1000000 in
theorem ref_twice (u : Value) (xs : List Nat) (d : Nat) (w : World) (hx : Rd32 w u xs) (hlx : xs.length ≤ 1073741824) (hd : d ≤ 1) :
    Calls Tryz.prog 121 #[u, .int .u32 (d : Int)] w (GivesD w (2 * val xs + d)) := by
  obtain ⟨a, c, rfl, hc, hm, hxr, hxc⟩ := hx
  unfold maxLen at hm
  obtain ⟨i0, hi, hz0, hz1, hz2⟩ := info_parts info_u32
  obtain ⟨n, hn⟩ : ∃ n, n = xs.length := ⟨_, rfl⟩
  rw [← hn] at hc hxc hlx ⊢
  have HN := hid hn
  have HX := hid hxr
  have HXC := hid hxc
  clear hn hxr hxc
  go_enter Tryz.func121, Tryz.ntmps121
  go_wp2
  go_loopw [1, 5, 6] (fun cv o i wr => ∃ k q : Nat, k ≤ n ∧ i = .int .i64 k ∧ cv = .int .u32 (q : Int) ∧ q ≤ 1 ∧ ∃ zs : List Nat, zs.length = k ∧ Digs zs ∧ val zs + 4294967296 ^ k * q = 2 * vt xs k + d ∧ wr.ownsRow w.heap.size 133 1 o k (zs.map U32) ∧ Below w.heap.size w wr) (fun _ _ i _ => n - (intOf i).toNat)
  case atStart => exact ⟨0, d, by omega, rfl, rfl, by omega, [], rfl, Digs.nil, by simp [vt_zero, val], World.ownsRow_nil _ _ _ _, Below.refl _ _⟩
  case round =>
    obtain ⟨k, q, hk, rfl, rfl, hq, zs, hzl, hzd, hv, hown, hbl⟩ := hrel
    have HV := hid hv
    have HL := hid hzl
    have HD := hid hzd
    have hxk := HX.out k
    have HB := hid hbl
    have hbs := hbl.size
    clear hv hzl hzd hbl
    by_cases h1 : k < n
    · obtain ⟨b, o, rfl, hb, hcell⟩ := HXC.out (by omega)
      have hcx := (HB.out.cell (p := ⟨b, o + k, none⟩) hb).trans (hcell k h1)
      have HCX := hid (hcell k h1)
      clear hcell
      obtain ⟨D, q', hD, hq', he, hd1, hd2⟩ := twice_digit (xs.getD k 0) q hxk hq
      have hst := hid (twice_step (xs := xs) HL.out HV.out he)
      have HD1 := hid hd1
      have HD2 := hid hd2
      clear he hd1 hd2
      generalize xs.getD k 0 = x at *
      go_wp2_with (at_builtin; refine wpList_append_own _ rfl _ _ 45 rfl (w.heap.size) 133 i0 (.int .u32 0) 1 4 Tryz.underlying45 hi hz0 hz1 hz2 rfl (by decide) _ _ _ rfl (hown.alloc _) ⟨_, 0, none⟩ 1 1 [(.int .u32 (bits BinOp.or IntKind.u32 ((x : Int) * 2 % 4294967296) (q : Int)))] rfl rfl (cell_one_new _ _ _) (by intro u hu; simp at hu; subst hu; rfl) (by unfold maxLen; omega) (by omega) (by simp; omega) ?_)
      intro v' w1 hown' hgrow _
      have hbl2 := push_below HB.out (by omega) hown hgrow
      have hcx' := (hbl2.cell (p := ⟨b, o + k, none⟩) hb).trans HCX.out
      have hbl' := hid hbl2
      clear hown hgrow hcx hbl2
      rw [HD1.out, map_snoc] at hown'
      go_wp2
      rw [HD2.out]
      go_roundw
      case rel => exact ⟨k + 1, q', by omega, by go_num, rfl, by omega, zs ++ [D], by simp [HL.out], HD.out.append (Digs.cons (by omega) Digs.nil), hst.out, hown', hbl'.out⟩
      case measure => simp [intOf]; omega
    · go_wp2_with (at_builtin; refine wpList_append_own _ rfl _ _ 45 rfl (w.heap.size) 133 i0 (.int .u32 0) 1 4 Tryz.underlying45 hi hz0 hz1 hz2 rfl (by decide) _ _ _ rfl (hown.alloc _) ⟨_, 0, none⟩ 1 1 [(.int .u32 (q : Int))] rfl rfl (cell_one_new _ _ _) (by intro u hu; simp at hu; subst hu; rfl) (by unfold maxLen; omega) (by omega) (by simp; omega) ?_)
      intro v' w1 hown' hgrow _
      have hbl' := hid (push_below HB.out (by omega) hown hgrow)
      have hbs' := hbl'.out.size
      clear hown hgrow
      rw [map_snoc] at hown'
      have hfin : val (zs ++ [q]) = 2 * val xs + d := by
        rw [val_snoc, HL.out, HV.out, vt_all xs k (by have := HN.out; omega)]
      have HF := hid hfin
      obtain ⟨hr1, hr2, _, ra, rc, rfl⟩ := rd_of_owns hown' (HD.out.append (Digs.cons (by omega) Digs.nil))
      have HR1 := hid hr1
      have HR2 := hid hr2
      clear hr1 hr2 hown' hfin
      go_wp2_with fail
      refine (ref_trim _ _ _ HR1.out).mono ?_
      rintro e w' ⟨a2, c2, rfl, hv2, ho2, k2, rfl⟩
      rw [HF.out] at hv2 ho2
      rw [HF.out]
      have HV2 := hid (hv2 _ HR1.out)
      have HO2 := hid ho2
      clear hv2 ho2
      go_wp2
      go_ret
      exact ⟨_, _, rfl, HV2.out, fun R hR => HO2.out R (HR2.out R hR), below_drewN hbl'.out⟩

theorem half_digit (x y : Nat) (hx : x < 4294967296) (hy : y < 4294967296) : bits BinOp.or IntKind.u32 ((x : Int) / 2) ((y : Int) * 2147483648 % 4294967296) = ((x / 2 + y % 2 * 2147483648 : Nat) : Int) := by
  rw [show ((x : Int) / 2) = ((x / 2 : Nat) : Int) from by omega, show ((y : Int) * 2147483648 % 4294967296) = ((y % 2 * 2147483648 : Nat) : Int) from by omega,
    u32_or_nat _ _ (by omega) (by omega), nat_join31' _ _ (by omega) (by omega)]
  omega

set_option maxHeartbeats 1000000 in
set_option maxRecDepth 100000 in
theorem ref_half (u : Value) (xs : List Nat) (w : World) (hx : Rd32 w u xs) (hlx : xs.length ≤ 1073741824) (hpos : 0 < xs.length) :
    Calls Tryz.prog 120 #[u] w (GivesD w (val xs / 2)) := by
  obtain ⟨a, c, rfl, hc, hm, hxr, hxc⟩ := hx
  unfold maxLen at hm
  obtain ⟨i0, hi, hz0, hz1, hz2⟩ := info_parts info_u32
  obtain ⟨b, o, rfl, hb, hcell⟩ := hxc hpos
  have hnews := Rd32.news (n := 0) (c := 0) (w := w.alloc (.cells #[] 133)) (fun i hi => (World.cell?_alloc_lt _ _ ⟨b, o + i, none⟩ hb).trans (hcell i hi))
  obtain ⟨n, hn⟩ : ∃ n, n = xs.length := ⟨_, rfl⟩
  rw [← hn] at hc hcell hlx hpos ⊢
  have HN := hid hn
  have HX := hid hxr
  have HXC := hid hcell
  have HNEWS := hid hnews
  have hlen : (xs.map U32).length = n * 1 := by simp [hn]
  have HLEN := hid hlen
  clear hn hxr hcell hxc hnews hlen
  have hown0 : (w.alloc (.cells #[] 133)).ownsRow w.heap.size 133 1 (.slice (some ⟨w.heap.size, 0, none⟩) 0 0) 0 [] := World.ownsRow_made w #[] 0 (Nat.le_refl _) (Nat.zero_le _) rfl
  have HOWN := hid hown0
  clear hown0
  go_enter Tryz.func120, Tryz.ntmps120
  go_wp2_with (at_builtin; refine wpList_append_own _ rfl _ _ 45 rfl w.heap.size 133 i0 (.int .u32 0) 1 4 Tryz.underlying45 hi hz0 hz1 hz2 rfl (by decide) _ _ _ rfl HOWN.out ⟨b, o, none⟩ n c (xs.map U32) rfl HLEN.out HNEWS.out (u32_one xs) (by unfold maxLen; omega) (by omega) (by go_size) ?_)
  intro v' w1 hown hgrow _
  obtain ⟨g, cap, rfl, hcap, hcm, hg, hO⟩ := own32_of_owns hown HX.out hpos
  have HO := hid hO
  have hbl : Below w.heap.size w w1 := ((Below.refl _ w).alloc (Nat.le_refl _) _).grown hgrow (by simp) (fun k hk => (HOWN.out.lt k hk).1)
  have HB := hid hbl
  unfold maxLen at hcm
  clear hO hown hgrow hbl HOWN HNEWS HLEN
  go_wp2
  go_loopw [10] (fun i wr => ∃ k : Nat, k ≤ n ∧ i = .int .i64 k ∧ Own32 wr g n ((halfF xs).take k ++ xs.drop k) ∧ Below w.heap.size w wr) (fun i _ => n - (intOf i).toNat)
  case atStart => exact ⟨0, by omega, rfl, by simpa using HO.out, HB.out⟩
  case round =>
    clear HO HB
    obtain ⟨k, hk, rfl, hO, hbl⟩ := hrel
    have HO := hid hO
    have HB := hid hbl
    clear hO hbl
    by_cases h1 : k < n
    · obtain ⟨hcz, hfz⟩ := HO.out.2.2.2 k h1
      rw [mixed_getD (halfF_length xs) (by have := HN.out; omega)] at hcz
      have hset := halfF_getD xs k (by have := HN.out; omega)
      have hxk := HX.out k
      have hyk := HX.out (k + 1)
      have hmx := mixed_set (halfF_length xs) (show k < xs.length by have := HN.out; omega)
      by_cases h2 : k + 1 < n
      · have hcx := (HB.out.cell (p := ⟨b, o + (k + 1), none⟩) hb).trans (HXC.out (k + 1) h2)
        have hd := half_digit (xs.getD k 0) (xs.getD (k + 1) 0) hxk hyk
        rw [← hset] at hd
        have HSET := hid hset
        have HMX := hid hmx
        have HXY := hid (HXC.out (k + 1) h2)
        clear hset hmx
        generalize xs.getD (k + 1) 0 = y at *
        generalize xs.getD k 0 = x at *
        go_wp2
        have hO1 := HO.out.set h1 (show x / 2 < 4294967296 by omega)
        have hb1 : Below w.heap.size w (wr.setCell ⟨g, k, none⟩ (U32 (x / 2))) := HB.out.setCell hg _
        rw [show ((x : Int) / 2) = ((x / 2 : Nat) : Int) from by omega]
        have hcx1 := (hb1.cell (p := ⟨b, o + (k + 1), none⟩) hb).trans HXY.out
        generalize wr.setCell ⟨g, k, none⟩ (U32 (x / 2)) = W at *
        clear hcz hfz hcx
        obtain ⟨hcz, hfz⟩ := hO1.2.2.2 k h1
        rw [getD_set_self (by rw [HO.out.1]; exact h1)] at hcz
        have HO1 := hid (hO1.set h1 (d := (halfF xs).getD k 0) (digs_halfF HX.out k))
        have HB1 := hid hb1
        clear hO1 hb1
        go_region
        all_goals
          go_wp2
          have hO2 := HO1.out
          rw [List.set_set, HMX.out] at hO2
          have HO2 := hid hO2
          clear hO2 hd
          go_roundw
          case rel => exact ⟨k + 1, by omega, by go_num, HO2.out.drew, (HB1.out.setCell (p := ⟨g, k, none⟩) hg _).drew⟩
          case measure => simp [intOf]; omega
      · have h0 : xs.getD (k + 1) 0 = 0 := getD_beyond (by have := HN.out; omega)
        rw [h0, Nat.zero_mod, Nat.zero_mul, Nat.add_zero] at hset
        have HMX := hid hmx
        have HSET := hid hset
        clear hset hmx h0 hyk
        generalize xs.getD k 0 = x at *
        go_wp2
        have hO1 := HO.out.set h1 (show x / 2 < 4294967296 by omega)
        rw [← HSET.out, HMX.out, HSET.out] at hO1
        have HO1 := hid hO1
        have HB1 := hid (HB.out.setCell (p := ⟨g, k, none⟩) hg (U32 (x / 2)))
        rw [show ((x : Int) / 2) = ((x / 2 : Nat) : Int) from by omega]
        clear hO1
        go_roundw
        case rel => exact ⟨k + 1, by omega, by go_num, HO1.out, HB1.out⟩
        case measure => simp [intOf]; omega
    · have hO := HO.out
      rw [List.take_of_length_le (by rw [halfF_length]; have := HN.out; omega), List.drop_eq_nil_of_le (by have := HN.out; omega), List.append_nil] at hO
      have HR1 := hid (hO.rd hcap (by unfold maxLen; exact hcm))
      clear hO
      go_wp2_with fail
      refine (ref_trim _ _ _ HR1.out).mono ?_
      rintro e w' ⟨a2, c2, rfl, hv2, ho2, k2, rfl⟩
      rw [val_halfF] at hv2 ho2
      rw [val_halfF]
      have HV2 := hid (hv2 _ HR1.out)
      have HO2 := hid ho2
      clear hv2 ho2
      go_wp2
      go_ret
      exact ⟨_, _, rfl, HV2.out, fun R hR => HO2.out R (Off.of_lt (by omega)), below_drewN HB.out⟩

end Go.Proofs.YtfcccldofaleoaaGreatDoor.Fr
