/- Contract of ref38.SameColumns at equal columns. -/
import Derived.Test.YtfmlpaplnkohpaaGreatDoorExOpsbd
set_option linter.unusedVariables false
set_option linter.unusedSimpArgs false
namespace Go.Proofs.YtfmlpaplnkohpaaGreatDoor
open Go.RowKit

set_option maxRecDepth 100000 in
set_option maxHeartbeats 4000000 in
theorem ref_SameCols (ia ib : Int) (na nb : ByteArray) (xs : List Co) (u v : Value) (B : Nat) (w : World) (hu : RdCo w (· < B) u xs) (hv : RdCo w (· < B) v xs) (hB : B ≤ w.heap.size) :
    Calls Tryz.prog 22 #[.agg #[.int .i64 ia, .string na, u], .agg #[.int .i64 ib, .string nb, v]] w (Ret w (.bool true)) := by
  have HU := hid hu
  have HV := hid hv
  have hmx := rdCo_max hu
  obtain ⟨ua, uc, rfl⟩ := rdCo_len hu
  obtain ⟨va, vc, rfl⟩ := rdCo_len hv
  clear hu hv
  generalize hl : xs.length = L at *
  have HL := hid hl
  clear hl
  have HQ := hid ((BoxN.new w #[.int .i64 ia, .string na, .slice ua L uc] 29).alloc (.cells #[.int .i64 ib, .string nb, .slice va L vc] 29))
  have hr := BoxN.new (w.alloc (.cells #[.int .i64 ia, .string na, .slice ua L uc] 29)) #[.int .i64 ib, .string nb, .slice va L vc] 29
  rw [World.size_alloc] at hr
  have HR := hid hr
  have HB0 := hid (((Below.refl w.heap.size w).alloc (Nat.le_refl _) (.cells #[.int .i64 ia, .string na, .slice ua L uc] 29)).alloc (by simp) (.cells #[.int .i64 ib, .string nb, .slice va L vc] 29))
  have hz0 : ((w.alloc (.cells #[.int .i64 ia, .string na, .slice ua L uc] 29)).alloc (.cells #[.int .i64 ib, .string nb, .slice va L vc] 29)).heap.size = w.heap.size + 2 := by simp
  have q2 := HQ.out.cell 2 rfl
  have r2 := hr.cell 2 rfl
  clear hr
  go_enter Tryz.func22, Tryz.ntmps22
  generalize hLB : Code.loop _ = LB
  go_wp2_with fail
  generalize (w.alloc (.cells #[.int .i64 ia, .string na, .slice ua L uc] 29)).alloc (.cells #[.int .i64 ib, .string nb, .slice va L vc] 29) = W2 at *
  have hz0a := Nat.le_of_eq hz0
  have hz0b := Nat.le_of_eq hz0.symm
  subst hLB
  clear q2 r2 hz0
  go_loopg [20] L (fun N i wr => ∃ q : Nat, q + N = L ∧ i = .int .i64 (q : Int) ∧ Hid (Below W2.heap.size W2 wr))
  case atStart => exact ⟨0, by omega, rfl, hid (Below.refl _ _)⟩
  case round =>
    obtain ⟨q, hq, rfl, HB⟩ := hrel
    by_cases hp : 0 < gk
    · have hqL : q < L := by omega
      obtain ⟨wo, rfl⟩ : ∃ wo, wo = wr := ⟨wr, rfl⟩
      obtain ⟨go, rfl⟩ : ∃ go, go = gk := ⟨gk, rfl⟩
      have HBW := hid (HB0.out.trans (HB.out.mono (by omega)))
      have hws := HBW.out.size
      have hw2 := HB.out.size
      obtain ⟨b5, o5, c5, y5, e5, hb5, hk5, k0, k1⟩ := co_at (HU.out.keep (w' := wo) fun p (hp : p.block < B) => HBW.out.cell (p := p) (by omega)) (q := q) (by rw [HL.out]; exact hqL)
      obtain ⟨b6, o6, c6, y6, e6, hb6, hk6, m0, m1⟩ := co_at (HV.out.keep (w' := wo) fun p (hp : p.block < B) => HBW.out.cell (p := p) (by omega)) (q := q) (by rw [HL.out]; exact hqL)
      obtain ⟨rfl, -, rfl⟩ := Value.slice.inj e5
      obtain ⟨rfl, -, rfl⟩ := Value.slice.inj e6
      have hb5' : b5 < wo.heap.size := by have : b5 < B := hb5; omega
      have hb6' : b6 < wo.heap.size := by have : b6 < B := hb6; omega
      obtain ⟨d5, g5, rfl⟩ : ∃ a c, y5 = .slice a (xs.getD q Co.z).cells.length c := by
        obtain ⟨a, c, e, -⟩ := hk5
        exact ⟨a, c, e⟩
      obtain ⟨d6, g6, rfl⟩ : ∃ a c, y6 = .slice a (xs.getD q Co.z).cells.length c := by
        obtain ⟨a, c, e, -⟩ := hk6
        exact ⟨a, c, e⟩
      have HK := hid hk5
      have HK' := hid hk6
      have hmk := rdCl_max hk5
      clear e5 e6 hk5 hk6 hb5 hb6
      generalize xs.getD q Co.z = z at *
      obtain ⟨zn, zc⟩ := z
      simp only at k0 k1 m0 m1 HK HK' hmk
      generalize hzl : zc.length = nn at *
      have HNN := hid hzl
      clear hzl
      have hce : ∀ O : Obj, ∀ p : Addr, p.block < wo.heap.size → (wo.alloc O).cell? p = wo.cell? p := fun O p hp => World.cell?_alloc_lt _ _ _ hp
      have n0 := (hce (.cells #[.string zn, .slice d5 nn g5] 39) ⟨b6, o6 + q * 2, none⟩ hb6').trans m0
      have n1 := (hce (.cells #[.string zn, .slice d5 nn g5] 39) ⟨b6, o6 + q * 2 + 1, none⟩ hb6').trans m1
      have hrb := HR.out.below HB.out HR.out.lt
      have n2 := (hrb.alloc (.cells #[.string zn, .slice d5 nn g5] 39)).cell 2 rfl
      have HX := hid ((BoxN.new wo #[.string zn, .slice d5 nn g5] 39).alloc (.cells #[.string zn, .slice d6 nn g6] 39))
      have hy := BoxN.new (wo.alloc (.cells #[.string zn, .slice d5 nn g5] 39)) #[.string zn, .slice d6 nn g6] 39
      rw [World.size_alloc] at hy
      have HY := hid hy
      have HBN := hid (((Below.refl wo.heap.size wo).alloc (Nat.le_refl _) (.cells #[.string zn, .slice d5 nn g5] 39)).alloc (by simp) (.cells #[.string zn, .slice d6 nn g6] 39))
      have HB2 := hid (HB.out.trans (HBN.out.mono hw2))
      have x0 := HX.out.cell 0 rfl
      have x1 := HX.out.cell 1 rfl
      have y0 := hy.cell 0 rfl
      have y1 := hy.cell 1 rfl
      have ht : (zn.toList == zn.toList) = true := by simp
      clear hce hrb hy
      generalize hLC : Code.loop _ = LC
      go_wp2_with fail
      generalize (wo.alloc (.cells #[.string zn, .slice d5 nn g5] 39)).alloc (.cells #[.string zn, .slice d6 nn g6] 39) = W4 at *
      subst hLC
      clear k0 k1 m0 m1 n0 n1 n2 x0 x1 y0 y1
      go_loopg [47] nn (fun N i W => ∃ k : Nat, k + N = nn ∧ i = .int .i64 (k : Int) ∧ Hid (Below W4.heap.size W4 W))
      case atStart => exact ⟨0, by omega, rfl, hid (Below.refl _ _)⟩
      case round =>
        obtain ⟨k, hk, rfl, HBI⟩ := hrel
        by_cases hpk : 0 < gk
        · have hkn : k < nn := by omega
          have HB4 := hid (HBN.out.trans (HBI.out.mono HBN.out.size))
          obtain ⟨b7, o7, c7, e7, hb7, s0, s1⟩ := cl_at HK.out (k := k) (by rw [HNN.out]; exact hkn)
          obtain ⟨b8, o8, c8, e8, hb8, s2, s3⟩ := cl_at HK'.out (k := k) (by rw [HNN.out]; exact hkn)
          obtain ⟨rfl, -, rfl⟩ := Value.slice.inj e7
          obtain ⟨rfl, -, rfl⟩ := Value.slice.inj e8
          have hb7' : b7 < wo.heap.size := by have : b7 < B := hb7; omega
          have hb8' : b8 < wo.heap.size := by have : b8 < B := hb8; omega
          have t0 := (HB4.out.cell (p := ⟨b7, o7 + k * 2, none⟩) hb7').trans s0
          have t1 := (HB4.out.cell (p := ⟨b7, o7 + k * 2 + 1, none⟩) hb7').trans s1
          generalize zc.getD k Cl.z = cc at *
          obtain ⟨cn, ct⟩ := cc
          simp only at s2 s3 t0 t1
          have hb5z := HB4.out.alloc HB4.out.size (.cells #[.bool cn, .string ct] 42)
          have t2 := (hb5z.cell (p := ⟨b8, o8 + k * 2, none⟩) hb8').trans s2
          have t3 := (hb5z.cell (p := ⟨b8, o8 + k * 2 + 1, none⟩) hb8').trans s3
          have t4 := ((HY.out.below HBI.out HY.out.lt).alloc (.cells #[.bool cn, .string ct] 42)).cell 1 rfl
          have hbx := BoxN.new wr #[.bool cn, .string ct] 42
          have t5 := hbx.cell 0 rfl
          have t6 := hbx.cell 1 rfl
          have htt : (ct.toList == ct.toList) = true := by simp
          have hkk : (k : Int) < (nn : Int) := by omega
          have HBF := hid (HBI.out.alloc HBI.out.size (.cells #[.bool cn, .string ct] 42))
          clear e7 e8 s0 s1 s2 s3 hb5z hbx hb7 hb8
          go_wp2_with fail
          go_quiet (fail)
          have HB9 := hid (below_drewN (n := nq) HBF.out)
          go_wp2_with fail
          go_roundg (gk - 1)
          case rel => exact ⟨k + 1, by omega, by go_num, HB9⟩
          case measure => omega
        · obtain rfl : gk = 0 := by omega
          obtain rfl : nn = k := by omega
          have HF := hid (HB2.out.trans (HBI.out.mono HB2.out.size))
          go_wp2
          go_roundg (go - 1)
          case rel => exact ⟨q + 1, by omega, by go_num, HF⟩
          case measure => omega
    · obtain rfl : q = L := by omega
      go_wp2
      go_ret
      exact ⟨rfl, HB0.out.trans (HB.out.mono (by omega))⟩
end Go.Proofs.YtfmlpaplnkohpaaGreatDoor
