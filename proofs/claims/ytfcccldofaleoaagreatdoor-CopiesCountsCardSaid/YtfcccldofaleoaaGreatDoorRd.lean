/- Contract of the reference's product of words. -/
import Derived.Test.YtfcccldofaleoaaGreatDoorRc
namespace Go.Proofs.YtfcccldofaleoaaGreatDoor.Fr
open Go.RowKit

set_option maxRecDepth 100000 in
set_option maxHeartbeats 2000000 in
theorem ref_mul (u v : Value) (xs ys : List Nat) (w : World) (hx : Rd32 w u xs) (hy : Rd32 w v ys) (hlx : xs.length ≤ 1073741824) (hly : ys.length ≤ 1073741824) :
    Calls Tryz.prog 91 #[u, v] w (GivesD w (val xs * val ys)) := by
  obtain ⟨a, c, rfl, hc, hm, hxr, hxc⟩ := hx
  obtain ⟨a', c', rfl, hc', hm', hyr, hyc⟩ := hy
  unfold maxLen at hm hm'
  obtain ⟨i0, hi, hz0, hz1, hz2⟩ := info_parts info_u32
  obtain ⟨n, hn⟩ : ∃ n, n = xs.length := ⟨_, rfl⟩
  obtain ⟨n', hn'⟩ : ∃ n, n = ys.length := ⟨_, rfl⟩
  rw [← hn] at hc hxc hlx ⊢
  rw [← hn'] at hc' hyc hly ⊢
  have HN := hid hn
  have HN' := hid hn'
  have HX := hid hxr
  have HY := hid hyr
  have HXC := hid hxc
  have HYC := hid hyc
  clear hn hn' hxr hyr hxc hyc
  go_enter Tryz.func91, Tryz.ntmps91
  go_wp2_with (at_make; refine wpList_make_full _ rfl _ _ 45 rfl w.heap.size 133 i0 (.int .u32 0) 1 Tryz.underlying45 hi hz0 hz1 _ _ _ _ (n + n') rfl rfl (by omega) (by omega) (by rw [hz2]; omega) (by unfold maxLen; omega) (Nat.le_refl _) ?_)
  intro w1 hown hgrow
  have hO := Own32.of_made hown
  have hb1 : Below w.heap.size w w1 := (Below.refl _ _).grown hgrow (Nat.le_refl _) (fun k h => by cases h)
  have HO := hid hO
  have HB1 := hid hb1
  clear hown hgrow hO hb1
  generalize hg : w.heap.size = g at *
  have HG := hid hg
  clear hg
  go_wp2
  go_loopw [6] (fun i wr => ∃ k : Nat, k ≤ n ∧ i = .int .i64 k ∧ ∃ zs, Own32 wr g (n + n') zs ∧ val zs = vt xs k * val ys ∧ (∀ p, k + n' ≤ p → zs.getD p 0 = 0) ∧ Below g w wr) (fun i _ => n - (intOf i).toNat)
  case atStart => exact ⟨0, by omega, rfl, _, HO.out, by rw [val_replicate]; simp [vt, val], fun p _ => by simp only [List.getD, List.getElem?_replicate]; split <;> rfl, HB1.out⟩
  case round =>
    clear HB1 HO
    obtain ⟨k, hk, rfl, zs, hzo, hzv, hzz, hbl⟩ := hrel
    have HO := hid hzo
    have HV := hid hzv
    have HZ := hid hzz
    have HB := hid hbl
    clear hzo hzv hzz hbl
    by_cases h1 : k < n
    · obtain ⟨b, o, rfl, hb, hcell⟩ := HXC.out (by omega)
      have hbg : b < g := by have := HG.out; omega
      have HCX := hid (hcell k h1)
      have hxk := HX.out k
      have HXK : Hid (xs.getD k 0 = xs.getD k 0) := hid rfl
      clear hcell
      obtain ⟨x, hxe⟩ : ∃ x, x = xs.getD k 0 := ⟨_, rfl⟩
      rw [← hxe] at HCX hxk
      have HXE := hid hxe
      clear hxe HXK
      obtain ⟨wo, rfl⟩ : ∃ wo : World, wo = wr := ⟨_, rfl⟩
      go_wp2
      go_loopw [7, 8] (fun cv jv wr => ∃ j cy : Nat, j ≤ n' ∧ jv = .int .i64 j ∧ cv = .int .u64 cy ∧ cy < 4294967296 ∧ ∃ zs, Own32 wr g (n + n') zs ∧ val zs + 4294967296 ^ (k + j) * cy = vt xs k * val ys + x * (4294967296 ^ k * vt ys j) ∧ (∀ p, k + n' ≤ p → zs.getD p 0 = 0) ∧ Below g w wr) (fun _ jv _ => n' - (intOf jv).toNat)
      case atStart => exact ⟨0, 0, by omega, rfl, rfl, by omega, zs, HO.out, by rw [HV.out, vt_zero]; simp, HZ.out, HB.out⟩
      case round =>
        clear HO HV HZ HB
        obtain ⟨j, cy, hj, rfl, rfl, hcy, zs, hzo, hzv, hzz, hbl⟩ := hrel
        have HO := hid hzo
        have HV := hid hzv
        have HZ := hid hzz
        have HB := hid hbl
        clear hzo hzv hzz hbl
        have hcx := (HB.out.cell (p := ⟨b, o + k, none⟩) hbg).trans HCX.out
        by_cases h2 : j < n'
        · obtain ⟨b', o', rfl, hb', hcell⟩ := HYC.out (by omega)
          have hcy' := (HB.out.cell (p := ⟨b', o' + j, none⟩) (by have := HG.out; omega)).trans (hcell j h2)
          clear hcell
          have hyj := HY.out j
          obtain ⟨hcz, hfz⟩ := HO.out.2.2.2 (k + j) (by omega)
          have hzj := HO.out.2.1 (k + j)
          have HST := hid (fun t ht => mul_step (t := t) (by rw [HO.out.1]; omega) HV.out ht)
          have hmb := mul_bound hxk hyj hcy hzj
          obtain ⟨m, hme⟩ : ∃ m, m = x * ys.getD j 0 := ⟨_, rfl⟩
          rw [← hme] at HST hmb
          have hme' : ((x : Nat) : Int) * ((ys.getD j 0 : Nat) : Int) = (m : Int) := by rw [hme]; simp
          generalize ys.getD j 0 = y at *
          generalize zs.getD (k + j) 0 = z at *
          clear hme
          have hm1 := hmb.1
          have hm2 := hmb.2
          clear hmb
          go_wp2
          go_quiet (fail)
          go_wp2
          have hst := HST.out _ rfl
          have HST2 := hid hst
          clear hst HST hcx hcy'
          have hset := HO.out.set (show k + j < n + n' by omega) (show (cy + (m + z)) % 4294967296 < 4294967296 by omega)
          have HO2 := hid hset
          clear hset
          go_roundw
          case rel => exact ⟨j + 1, (cy + (m + z)) / 4294967296, by omega, by go_num, by go_num, by omega, zs.set (k + j) ((cy + (m + z)) % 4294967296), HO2.out, HST2.out, fun p hp => by rw [getD_set_other (by omega)]; exact HZ.out p hp, (below_drewN HB.out).setCell (Nat.le_refl _) _⟩
          case measure => simp [intOf]; omega
        · obtain rfl : n' = j := by omega
          obtain ⟨hcz, hfz⟩ := HO.out.2.2.2 (k + n') (by omega)
          have hv2 := HV.out
          rw [HXE.out] at hv2
          have hrow := mul_row (by rw [HO.out.1]; omega) (HZ.out _ (Nat.le_refl _)) (by have := HN'.out; omega) hv2
          have HR := hid hrow
          have HO2 := hid (HO.out.set (show k + n' < n + n' by omega) hcy)
          rw [HZ.out _ (Nat.le_refl _)] at hcz
          clear hrow hv2 hcx
          go_wp2
          go_roundw
          case rel => exact ⟨k + 1, by omega, by go_num, zs.set (k + n') cy, HO2.out, HR.out, fun p hp => by rw [getD_set_other (by omega)]; exact HZ.out p (by omega), HB.out.setCell (Nat.le_refl _) _⟩
          case measure => simp [intOf]; omega
    · have hV : val zs = val xs * val ys := by rw [HV.out, vt_all xs k (by have := HN.out; omega)]
      have HF := hid hV
      have hgl := HG.out
      clear hV
      go_wp2_with fail
      refine (ref_trim _ _ _ (HO.out.rd (Nat.le_refl _) (by unfold maxLen; omega))).mono ?_
      rintro e w' ⟨a2, c2, rfl, hv2, ho2, k2, rfl⟩
      rw [HF.out] at hv2 ho2
      rw [HF.out]
      have HV2 := hid (hv2 _ (HO.out.rd (Nat.le_refl _) (by unfold maxLen; omega)))
      have HO2 := hid ho2
      clear hv2 ho2
      go_wp2
      go_ret
      exact ⟨_, _, rfl, HV2.out, fun R hR => HO2.out R (Off.of_lt (by omega)), by rw [hgl]; exact below_drewN HB.out⟩

end Go.Proofs.YtfcccldofaleoaaGreatDoor.Fr
