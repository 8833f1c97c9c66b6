/- Contract of law39's awake, out of chain's. -/
import Derived.Test.YtaajpliifdlokaaGreatDoorLnNrbg
set_option linter.unusedVariables false
set_option linter.unusedSimpArgs false
namespace Go.Proofs.YtaajpliifdlokaaGreatDoor
open Go.RowKit
theorem rdTa_next {w w' : World} {v : Value} {ts : List Ta} (h : RdTa w (· < w.heap.size) v ts) (hb : Below w.heap.size w w') : RdTa w' (· < w'.heap.size) v ts :=
  (h.keep fun p (hp : p.block < w.heap.size) => hb.cell (p := p) hp).more fun b (hb' : b < w.heap.size) => Nat.lt_of_lt_of_le hb' hb.size
theorem rdKs_one {w : World} {b n : Nat} {t : TypeId} {zs : List Int} (h : BoxN w b t (zs.map (Value.int .i64)).toArray) (hn : n = zs.length) (hm : n ≤ 1048576) : RdKs w (· < w.heap.size) (.slice (some ⟨b, 0, none⟩) n n) zs := by
  subst hn
  refine ⟨_, _, rfl, Nat.le_refl _, by unfold maxLen; omega, fun hp => ⟨b, 0, rfl, h.lt, fun i hi j hj => ?_⟩⟩
  obtain rfl : j = 0 := by omega
  rw [show 0 + i * 1 + 0 = i by omega]
  exact h.cell i (by simp [zF, List.getD, hi])
set_option maxRecDepth 100000 in
set_option maxHeartbeats 4000000 in
theorem law39_awake_of (hch : ∀ W, Calls Tryz.prog 54 #[] W (ChainP W)) (w : World) (hT : Tabs w) : Calls Tryz.prog 28 #[] w (Ret w (.bool true)) := by
 have HT := hid hT
 have HCH := hid (hch w)
 clear hT hch
 have hll : (linksL chainL).length = 2 := by have := congrArg List.length chain_links; simpa using this
 have hs0 : ((linksL chainL).getD 0 Lk.z).src = 1 := by
  have h1 := congrArg (fun l => (l.getD 0 (0, 0)).1) chain_links
  have h2 : 0 < (linksL chainL).length := by omega
  simpa [List.getD, h2] using h1
 have hs1 : ((linksL chainL).getD 1 Lk.z).src = 2 := by
  have h1 := congrArg (fun l => (l.getD 1 (0, 0)).1) chain_links
  have h2 : 1 < (linksL chainL).length := by omega
  simpa [List.getD, h2] using h1
 have HLR := hid (links_right chain_list chain_few)
 have HLD := hid (links_dst chain_list.2.2)
 have hanc : (ancL (linksL chainL) 3 [3]).drop 1 = [2, 1] := by rw [chain_anc]; rfl
 have HANC := hid hanc
 have HROO := hid chain_roots
 clear hanc
 go_enter Tryz.func28, Tryz.ntmps28
 go_wp2_with fail
 with_reducible refine HCH.out.mono ?_
 rintro e w1 ⟨v, rfl, hv, hb1⟩
 have HB1 := hid hb1
 have HV1 := hid (hv.more (S' := (· < w1.heap.size)) fun b hb => hb.2)
 have HLI := hid (lin_Links chainL v w1.heap.size w1 chain_list chain_few HV1.out (Nat.le_refl _) (HT.out.below hb1))
 obtain ⟨tv, ⟨va, vc, rfl, -⟩, -⟩ := hv
 clear hb1
 go_wp2_with fail
 with_reducible refine HLI.out.mono ?_
 rintro e w2 ⟨u, rfl, hu, hb2⟩
 have HB2 := hid (HB1.out.trans (hb2.mono HB1.out.size))
 have HV2 := hid (rdTa_next HV1.out hb2)
 have HU2 := hid (hu.more (S' := (· < w2.heap.size)) fun b hb => hb.2)
 have HAN := hid (lin_Ancestors u (linksL chainL) w2.heap.size 3 3 w2 (by omega) (by omega) HU2.out (Nat.le_refl _))
 unfold AncP at HAN
 rw [HANC.out] at HAN
 obtain ⟨ua, uc, rfl, -, -⟩ := rdLk_len hu
 rw [hll] at HU2 HAN ⊢
 clear hu hb2 HLI
 go_wp2_with fail
 with_reducible refine HAN.out.mono ?_
 rintro e w3 ⟨z, rfl, hz, hb3⟩
 have HB3 := hid (HB2.out.trans (hb3.mono HB2.out.size))
 have HV3 := hid (rdTa_next HV2.out hb3)
 have HU3 := hid (rdLk_next HU2.out hb3)
 have HZ3 := hid (hz.more (S' := (· < w3.heap.size)) fun b hb => hb.2)
 obtain ⟨za, zc, rfl, -⟩ := hz
 obtain ⟨b, o, c3, y0, e3, hbb, -, k0, -, -⟩ := lk_at HU3.out (q := 0) (by omega)
 obtain ⟨b', o', c3', y1, e4, hbb', -, k1, -, -⟩ := lk_at HU3.out (q := 1) (by omega)
 rw [hll] at e3 e4
 obtain ⟨rfl, -, rfl⟩ := Value.slice.inj e3
 obtain ⟨e5, -, -⟩ := Value.slice.inj e4
 injection e5 with e6
 injection e6 with e7 e8
 subst e7 e8
 rw [hs0] at k0
 rw [hs1] at k1
 simp only [Nat.zero_mul, Nat.add_zero] at k0
 have hb4 := (Below.refl w3.heap.size w3).alloc (Nat.le_refl _) (.cells #[.int .i64 2, .int .i64 1] 3)
 have HB4 := hid (HB3.out.trans (hb4.mono HB3.out.size))
 have HV4 := hid (rdTa_next HV3.out hb4)
 have HU4 := hid (rdLk_next HU3.out hb4)
 have HIN := hid (law39_ints (.slice za 2 zc) _ [2, 1] _ (w3.alloc (.cells #[.int .i64 2, .int .i64 1] 3)) ((HZ3.out.keep fun p (hp : p.block < w3.heap.size) => hb4.cell (p := p) hp).more fun b (hb : b < w3.heap.size) => Nat.lt_of_lt_of_le hb hb4.size) (rdKs_one (n := 2) (BoxN.new w3 #[.int .i64 2, .int .i64 1] 3) rfl (by omega)) (Nat.le_refl _))
 clear e3 e4 hbb hbb' hb3 hb4 HAN
 go_wp2_with fail
 clear k0 k1
 with_reducible refine HIN.out.mono ?_
 generalize w3.alloc (.cells #[.int .i64 2, .int .i64 1] 3) = W4 at *
 rintro e w5 ⟨rfl, hb5⟩
 have HB5 := hid (HB4.out.trans (hb5.mono HB4.out.size))
 have HV5 := hid (rdTa_next HV4.out hb5)
 have HU5 := hid (rdLk_next HU4.out hb5)
 have HRO := hid (lin_Roots chainL (linksL chainL) _ _ w5.heap.size w5 chain_list.2.2 (by decide) (by omega) HV5.out HU5.out (Nat.le_refl _))
 unfold RootsP at HRO
 rw [HROO.out] at HRO
 clear hb5 HIN
 go_wp2_with fail
 with_reducible refine HRO.out.mono ?_
 rintro e w6 ⟨r, rfl, hr, hb6⟩
 have HB6 := hid (HB5.out.trans (hb6.mono HB5.out.size))
 have HV6 := hid (rdTa_next HV5.out hb6)
 have HU6 := hid (rdLk_next HU5.out hb6)
 have HR6 := hid (hr.more (S' := (· < w6.heap.size)) fun b hb => hb.2)
 obtain ⟨ra, rc, rfl, -⟩ := hr
 have hb7 := (Below.refl w6.heap.size w6).alloc (Nat.le_refl _) (.cells #[.int .i64 1] 3)
 have HB7 := hid (HB6.out.trans (hb7.mono HB6.out.size))
 have HV7 := hid (rdTa_next HV6.out hb7)
 have HU7 := hid (rdLk_next HU6.out hb7)
 have HIN2 := hid (law39_ints (.slice ra 1 rc) _ [1] _ (w6.alloc (.cells #[.int .i64 1] 3)) ((HR6.out.keep fun p (hp : p.block < w6.heap.size) => hb7.cell (p := p) hp).more fun b (hb : b < w6.heap.size) => Nat.lt_of_lt_of_le hb hb7.size) (rdKs_one (n := 1) (BoxN.new w6 #[.int .i64 1] 3) rfl (by omega)) (Nat.le_refl _))
 clear hb6 hb7 HRO
 go_wp2_with fail
 with_reducible refine HIN2.out.mono ?_
 generalize w6.alloc (.cells #[.int .i64 1] 3) = W7 at *
 rintro e w8 ⟨rfl, hb8⟩
 have HB8 := hid (HB7.out.trans (hb8.mono HB7.out.size))
 have HCK := hid (lin_Check chainL (linksL chainL) _ _ w8.heap.size w8 chain_list HLR.out HLD.out (by omega) (rdTa_next HV7.out hb8) (rdLk_next HU7.out hb8) (Nat.le_refl _) (HT.out.below HB8.out))
 clear hb8 HIN2
 go_wp2_with fail
 with_reducible refine HCK.out.mono ?_
 rintro e w9 ⟨rfl, hb9⟩
 have HB9 := hid (HB8.out.trans (hb9.mono HB8.out.size))
 clear hb9
 go_wp2
 go_ret
 exact ⟨rfl, HB9.out⟩
end Go.Proofs.YtaajpliifdlokaaGreatDoor
