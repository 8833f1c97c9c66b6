/- Contracts of ref03.SameCells and ref03.Same at equal arguments. Contract of ref38.SameColumns: whether columns are equal. Plain: the kit's family of tables and a strange one (LineageGrows). No program in sight. Memory: one more table behind tables, and the strange table. Operations in an own row, to which lists of operations are appended. -/
import Derived.Test.YtaajpliifdlokaaGreatDoorLnNrbf
import Derived.Test.YtaajpliifdlokaaGreatDoorLnNraq
import Derived.Test.YtaajpliifdlokaaGreatDoorLnNrac
import Derived.Test.YtaajpliifdlokaaGreatDoorLnNrbq
import Derived.Test.YtaajpliifdlokaaGreatDoorLnNrad
import Derived.ArgAppend
import Derived.Test.YtaajpliifdlokaaGreatDoorLnNrag
import Derived.Test.YtaajpliifdlokaaGreatDoorLnNrbb
set_option linter.unusedVariables false
set_option linter.unusedSimpArgs false
namespace Go.Proofs.YtaajpliifdlokaaGreatDoor
open Go.RowKit
theorem cl_at {w : World} {S : Nat → Prop} {v : Value} {xs : List Cl} (h : RdCl w S v xs) {k : Nat} (hk : k < xs.length) : ∃ b o c, v = .slice (some ⟨b, o, none⟩) xs.length c ∧ S b ∧ w.cell? ⟨b, o + k * 2, none⟩ = some (.bool (xs.getD k Cl.z).null) ∧ w.cell? ⟨b, o + k * 2 + 1, none⟩ = some (.string (xs.getD k Cl.z).text) := by
  obtain ⟨a, c, e, -, -, hr⟩ := h
  obtain ⟨b, o, rfl, hb, hc⟩ := hr (by omega)
  exact ⟨b, o, c, e, hb, hc k hk 0 (by omega), hc k hk 1 (by omega)⟩
theorem rdCl_max {w : World} {S : Nat → Prop} {v : Value} {os : List Cl} (h : RdCl w S v os) : os.length ≤ 9223372036854775807 := by
  obtain ⟨a, c, -, h1, h2, -⟩ := h
  unfold maxLen at h2
  omega
theorem rdCo_max {w : World} {S : Nat → Prop} {v : Value} {os : List Co} (h : RdCo w S v os) : os.length ≤ 9223372036854775807 := by
  obtain ⟨uv, ⟨a, c, -, h1, h2, -⟩, -⟩ := h
  unfold maxLen at h2
  omega
theorem co_at {w : World} {S : Nat → Prop} {v : Value} {xs : List Co} (h : RdCo w S v xs) {q : Nat} (hq : q < xs.length) : ∃ b o c uv, v = .slice (some ⟨b, o, none⟩) xs.length c ∧ S b ∧ RdCl w S uv (xs.getD q Co.z).cells ∧ w.cell? ⟨b, o + q * 2, none⟩ = some (.string (xs.getD q Co.z).name) ∧ w.cell? ⟨b, o + q * 2 + 1, none⟩ = some uv := by
  obtain ⟨cv, ⟨a, c, e, -, -, hr⟩, hk⟩ := h
  obtain ⟨b, o, rfl, hb, hc⟩ := hr (by omega)
  exact ⟨b, o, c, cv q, e, hb, hk q hq, hc q hq 0 (by omega), hc q hq 1 (by omega)⟩
end Go.Proofs.YtaajpliifdlokaaGreatDoor

namespace Go.Proofs.YtaajpliifdlokaaGreatDoor
open Go.RowKit
set_option maxRecDepth 100000 in
set_option maxHeartbeats 4000000 in
theorem ref_SameColsD (ia ib : Int) (na nb : ByteArray) (xs ys : List Co) (u v : Value) (B : Nat) (w : World) (hu : RdCo w (· < B) u xs) (hv : RdCo w (· < B) v ys) (hB : B ≤ w.heap.size) :
  Calls Tryz.prog 70 #[.agg #[.int .i64 ia, .string na, u], .agg #[.int .i64 ib, .string nb, v]] w (Ret w (.bool (decide (xs = ys)))) := by
 have HU := hid hu
 have HV := hid hv
 have hmx := rdCo_max hu
 obtain ⟨ua, uc, rfl⟩ := rdCo_len hu
 obtain ⟨va, vc, rfl⟩ := rdCo_len hv
 have HEQ : Hid (xs.length = ys.length → (∀ j, j < xs.length → xs.getD j Co.z = ys.getD j Co.z) → decide (xs = ys) = true) := hid fun h1 h2 => decide_eq_true (List.ext_getElem h1 fun i hi hj => by have := h2 i hi; simpa [List.getD, hi, hj] using this)
 have HNE : Hid (∀ j, xs.getD j Co.z ≠ ys.getD j Co.z → decide (xs = ys) = false) := hid fun j h => decide_eq_false fun e => h (by rw [e])
 have HNL : Hid (xs.length ≠ ys.length → decide (xs = ys) = false) := hid fun h => decide_eq_false fun e => h (by rw [e])
 have hmy := rdCo_max hv
 clear hu hv
 generalize decide (xs = ys) = rr at *
 generalize hl : xs.length = L at *
 have HL := hid hl
 clear hl
 generalize hl2 : ys.length = M at *
 have HM := hid hl2
 clear hl2
 have HQ := hid ((BoxN.new w #[.int .i64 ia, .string na, .slice ua L uc] 51).alloc (.cells #[.int .i64 ib, .string nb, .slice va M vc] 51))
 have hr := BoxN.new (w.alloc (.cells #[.int .i64 ia, .string na, .slice ua L uc] 51)) #[.int .i64 ib, .string nb, .slice va M vc] 51
 rw [World.size_alloc] at hr
 have HR := hid hr
 have HB0 := hid (((Below.refl w.heap.size w).alloc (Nat.le_refl _) (.cells #[.int .i64 ia, .string na, .slice ua L uc] 51)).alloc (by simp) (.cells #[.int .i64 ib, .string nb, .slice va M vc] 51))
 have hz0 : ((w.alloc (.cells #[.int .i64 ia, .string na, .slice ua L uc] 51)).alloc (.cells #[.int .i64 ib, .string nb, .slice va M vc] 51)).heap.size = w.heap.size + 2 := by simp
 have q2 := HQ.out.cell 2 rfl
 have r2 := hr.cell 2 rfl
 clear hr
 by_cases hLM : L = M
 case neg =>
  have hi1 : ¬ (L : Int) = (M : Int) := by omega
  have hi2 : decide ((L : Int) = (M : Int)) = false := decide_eq_false hi1
  have hi3 : ((L : Int) == (M : Int)) = false := beq_false_of_ne hi1
  obtain rfl : rr = false := HNL.out hLM
  go_enter Tryz.func70, Tryz.ntmps70
  go_wp2
  go_ret
  exact ⟨rfl, HB0.out⟩
 subst hLM
 go_enter Tryz.func70, Tryz.ntmps70
 generalize hLB : Code.loop _ = LB
 go_wp2_with fail
 generalize (w.alloc (.cells #[.int .i64 ia, .string na, .slice ua L uc] 51)).alloc (.cells #[.int .i64 ib, .string nb, .slice va L vc] 51) = W2 at *
 have hz0a := Nat.le_of_eq hz0
 have hz0b := Nat.le_of_eq hz0.symm
 subst hLB
 clear q2 r2 hz0
 go_loopg [20] L (fun N i wr => ∃ q : Nat, q + N = L ∧ i = .int .i64 (q : Int) ∧ Hid (Below W2.heap.size W2 wr) ∧ Hid (∀ j, j < q → xs.getD j Co.z = ys.getD j Co.z))
 case atStart => exact ⟨0, by omega, rfl, hid (Below.refl _ _), hid (fun j h => absurd h (by omega))⟩
 case round =>
  obtain ⟨q, hq, rfl, HB, HE⟩ := hrel
  by_cases hp : 0 < gk
  ·have hqL : q < L := by omega
   obtain ⟨wo, rfl⟩ : ∃ wo, wo = wr := ⟨wr, rfl⟩
   obtain ⟨go, rfl⟩ : ∃ go, go = gk := ⟨gk, rfl⟩
   have HBW := hid (HB0.out.trans (HB.out.mono (by omega)))
   have hws := HBW.out.size
   have hw2 := HB.out.size
   obtain ⟨b5, o5, c5, y5, e5, hb5, hk5, k0, k1⟩ := co_at (HU.out.keep (w' := wo) fun p (hp : p.block < B) => HBW.out.cell (p := p) (by omega)) (q := q) (by rw [HL.out]; exact hqL)
   obtain ⟨b6, o6, c6, y6, e6, hb6, hk6, m0, m1⟩ := co_at (HV.out.keep (w' := wo) fun p (hp : p.block < B) => HBW.out.cell (p := p) (by omega)) (q := q) (by rw [HM.out]; exact hqL)
   obtain ⟨rfl, -, rfl⟩ := Value.slice.inj e5
   obtain ⟨rfl, -, rfl⟩ := Value.slice.inj e6
   have hb5' : b5 < wo.heap.size := by have : b5 < B := hb5; omega
   have hb6' : b6 < wo.heap.size := by have : b6 < B := hb6; omega
   obtain ⟨d5, g5, rfl⟩ : ∃ a c, y5 = .slice a (xs.getD q Co.z).cells.length c := by
    obtain ⟨a, c, e, -⟩ := hk5
    exact ⟨a, c, e⟩
   obtain ⟨d6, g6, rfl⟩ : ∃ a c, y6 = .slice a (ys.getD q Co.z).cells.length c := by
    obtain ⟨a, c, e, -⟩ := hk6
    exact ⟨a, c, e⟩
   have HK := hid hk5
   have HK' := hid hk6
   have hmk := rdCl_max hk5
   have HNEq := hid (HNE.out q)
   have HEq : Hid (xs.getD q Co.z = ys.getD q Co.z → ∀ j, j < q + 1 → xs.getD j Co.z = ys.getD j Co.z) := hid (fun h j hj => by
    rcases Nat.lt_or_ge j q with h1 | h1
    ·exact HE.out j h1
    ·obtain rfl : j = q := by omega
     exact h)
   clear e5 e6 hk5 hk6 hb5 hb6
   generalize xs.getD q Co.z = z at *
   generalize ys.getD q Co.z = z' at *
   obtain ⟨zn, zc⟩ := z
   obtain ⟨zn', zc'⟩ := z'
   simp only at k0 k1 m0 m1 HK HK' hmk
   have HCE : Hid (zc.length = zc'.length → (∀ k, k < zc.length → zc.getD k Cl.z = zc'.getD k Cl.z) → zc = zc') := hid (fun h1 h2 => List.ext_getElem h1 fun i hi hj => by have := h2 i hi; simpa [List.getD, hi, hj] using this)
   have HCN : Hid (zc.length ≠ zc'.length → zc ≠ zc') := hid (fun h e => h (by rw [e]))
   have HCK : Hid (∀ k, zc.getD k Cl.z ≠ zc'.getD k Cl.z → zc ≠ zc') := hid (fun k h e => h (by rw [e]))
   generalize hzl : zc.length = nn at *
   have HNN := hid hzl
   clear hzl
   generalize hzl2 : zc'.length = mm at *
   have HMM := hid hzl2
   clear hzl2
   have hce : ∀ O : Obj, ∀ p : Addr, p.block < wo.heap.size → (wo.alloc O).cell? p = wo.cell? p := fun O p hp => World.cell?_alloc_lt _ _ _ hp
   have n0 := (hce (.cells #[.string zn, .slice d5 nn g5] 55) ⟨b6, o6 + q * 2, none⟩ hb6').trans m0
   have n1 := (hce (.cells #[.string zn, .slice d5 nn g5] 55) ⟨b6, o6 + q * 2 + 1, none⟩ hb6').trans m1
   have hrb := HR.out.below HB.out HR.out.lt
   have n2 := (hrb.alloc (.cells #[.string zn, .slice d5 nn g5] 55)).cell 2 rfl
   have HX := hid ((BoxN.new wo #[.string zn, .slice d5 nn g5] 55).alloc (.cells #[.string zn', .slice d6 mm g6] 55))
   have hy := BoxN.new (wo.alloc (.cells #[.string zn, .slice d5 nn g5] 55)) #[.string zn', .slice d6 mm g6] 55
   rw [World.size_alloc] at hy
   have HY := hid hy
   have HBN := hid (((Below.refl wo.heap.size wo).alloc (Nat.le_refl _) (.cells #[.string zn, .slice d5 nn g5] 55)).alloc (by simp) (.cells #[.string zn', .slice d6 mm g6] 55))
   have HB2 := hid (HB.out.trans (HBN.out.mono hw2))
   have x0 := HX.out.cell 0 rfl
   have x1 := HX.out.cell 1 rfl
   have y0 := hy.cell 0 rfl
   have y1 := hy.cell 1 rfl
   clear hce hrb hy
   by_cases hnm : zn = zn'
   case neg =>
    have ht : (zn.toList == zn'.toList) = false := by
     cases h : (zn.toList == zn'.toList)
     ·rfl
     ·exact absurd (bytes_ext (eq_of_beq h)) hnm
    obtain rfl : rr = false := HNEq.out fun e => hnm (by injection e)
    go_wp2
    go_ret
    exact ⟨rfl, HB0.out.trans (HB2.out.mono (by omega))⟩
   subst hnm
   have ht : (zn.toList == zn.toList) = true := by simp
   by_cases hnm : nn = mm
   case neg =>
    have hi1 : ¬ (nn : Int) = (mm : Int) := by omega
    have hi2 : decide ((nn : Int) = (mm : Int)) = false := decide_eq_false hi1
    have hi3 : ((nn : Int) == (mm : Int)) = false := beq_false_of_ne hi1
    obtain rfl : rr = false := HNEq.out fun e => HCN.out hnm (by injection e)
    go_wp2
    go_ret
    exact ⟨rfl, HB0.out.trans (HB2.out.mono (by omega))⟩
   subst hnm
   generalize hLC : Code.loop _ = LC
   go_wp2_with fail
   generalize (wo.alloc (.cells #[.string zn, .slice d5 nn g5] 55)).alloc (.cells #[.string zn, .slice d6 nn g6] 55) = W4 at *
   subst hLC
   clear k0 k1 m0 m1 n0 n1 n2 x0 x1 y0 y1
   go_loopg [47] nn (fun N i W => ∃ k : Nat, k + N = nn ∧ i = .int .i64 (k : Int) ∧ Hid (Below W4.heap.size W4 W) ∧ Hid (∀ j, j < k → zc.getD j Cl.z = zc'.getD j Cl.z))
   case atStart => exact ⟨0, by omega, rfl, hid (Below.refl _ _), hid (fun j h => absurd h (by omega))⟩
   case round =>
    obtain ⟨k, hk, rfl, HBI, HEI⟩ := hrel
    by_cases hpk : 0 < gk
    ·have hkn : k < nn := by omega
     have HB4 := hid (HBN.out.trans (HBI.out.mono HBN.out.size))
     obtain ⟨b7, o7, c7, e7, hb7, s0, s1⟩ := cl_at HK.out (k := k) (by rw [HNN.out]; exact hkn)
     obtain ⟨b8, o8, c8, e8, hb8, s2, s3⟩ := cl_at HK'.out (k := k) (by rw [HMM.out]; exact hkn)
     obtain ⟨rfl, -, rfl⟩ := Value.slice.inj e7
     obtain ⟨rfl, -, rfl⟩ := Value.slice.inj e8
     have hb7' : b7 < wo.heap.size := by have : b7 < B := hb7; omega
     have hb8' : b8 < wo.heap.size := by have : b8 < B := hb8; omega
     have t0 := (HB4.out.cell (p := ⟨b7, o7 + k * 2, none⟩) hb7').trans s0
     have t1 := (HB4.out.cell (p := ⟨b7, o7 + k * 2 + 1, none⟩) hb7').trans s1
     have HNK := hid (HCK.out k)
     have HEk : Hid (zc.getD k Cl.z = zc'.getD k Cl.z → ∀ j, j < k + 1 → zc.getD j Cl.z = zc'.getD j Cl.z) := hid (fun h j hj => by
      rcases Nat.lt_or_ge j k with h1 | h1
      ·exact HEI.out j h1
      ·obtain rfl : j = k := by omega
       exact h)
     generalize zc.getD k Cl.z = cc at *
     generalize zc'.getD k Cl.z = dd at *
     obtain ⟨cn, ct⟩ := cc
     obtain ⟨dn, dt⟩ := dd
     simp only at s2 s3 t0 t1
     have hb5z := HB4.out.alloc HB4.out.size (.cells #[.bool cn, .string ct] 84)
     have t2 := (hb5z.cell (p := ⟨b8, o8 + k * 2, none⟩) hb8').trans s2
     have t3 := (hb5z.cell (p := ⟨b8, o8 + k * 2 + 1, none⟩) hb8').trans s3
     have t4 := ((HY.out.below HBI.out HY.out.lt).alloc (.cells #[.bool cn, .string ct] 84)).cell 1 rfl
     have hbx := BoxN.new wr #[.bool cn, .string ct] 84
     have t5 := hbx.cell 0 rfl
     have t6 := hbx.cell 1 rfl
     have hkk : (k : Int) < (nn : Int) := by omega
     have HBF := hid (HBI.out.alloc HBI.out.size (.cells #[.bool cn, .string ct] 84))
     have HFAR := hid (HB0.out.trans (HB2.out.mono (by omega)))
     clear e7 e8 s0 s1 s2 s3 hb5z hbx hb7 hb8
     by_cases hn0 : dn = cn
     case neg =>
      have hnb : (dn == cn) = false := beq_false_of_ne hn0
      obtain rfl : rr = false := HNEq.out fun e => HNK.out (fun e2 => hn0 (by injection e2 with e3 e4; exact e3.symm)) (by injection e)
      go_wp2_with fail
      go_quiet (fail)
      have HB9 := hid (below_drewN (n := nq) HBF.out)
      go_wp2_with fail
      go_ret
      exact ⟨rfl, HFAR.out.trans (HB9.out.mono HFAR.out.size)⟩
     subst hn0
     have hnb : (dn == dn) = true := by simp
     by_cases ht0 : dt = ct
     case neg =>
      have htt : (dt.toList == ct.toList) = false := by
       cases h : (dt.toList == ct.toList)
       ·rfl
       ·exact absurd (bytes_ext (eq_of_beq h)) ht0
      obtain rfl : rr = false := HNEq.out fun e => HNK.out (fun e2 => ht0 (by injection e2 with e3 e4; exact e4.symm)) (by injection e)
      go_wp2_with fail
      go_quiet (fail)
      have HB9 := hid (below_drewN (n := nq) HBF.out)
      go_wp2_with fail
      go_ret
      exact ⟨rfl, HFAR.out.trans (HB9.out.mono HFAR.out.size)⟩
     subst ht0
     have htt : (dt.toList == dt.toList) = true := by simp
     go_wp2_with fail
     go_quiet (fail)
     have HB9 := hid (below_drewN (n := nq) HBF.out)
     go_wp2_with fail
     go_roundg (gk - 1)
     case rel => exact ⟨k + 1, by omega, by go_num, HB9, hid (HEk.out (by first | rfl | trivial))⟩
     case measure => omega
    ·obtain rfl : gk = 0 := by omega
     obtain rfl : nn = k := by omega
     have HF := hid (HB2.out.trans (HBI.out.mono HB2.out.size))
     go_wp2
     go_roundg (go - 1)
     case rel => exact ⟨q + 1, by omega, by go_num, HF, hid (HEq.out (by rw [HCE.out (by first | rfl | trivial) (by first | (rw [HNN.out]; exact HEI.out) | exact HEI.out)]))⟩
     case measure => omega
  ·obtain rfl : q = L := by omega
   obtain rfl : rr = true := HEQ.out (by first | rfl | trivial) (by first | exact HE.out | (rw [HL.out]; exact HE.out))
   go_wp2
   go_ret
   exact ⟨rfl, HB0.out.trans (HB.out.mono (by omega))⟩
end Go.Proofs.YtaajpliifdlokaaGreatDoor

namespace Go.Proofs.YtaajpliifdlokaaGreatDoor
open Go.RowKit
def strangeN : ByteArray := ⟨#[115, 116, 114, 97, 110, 103, 101]⟩
def strangeT : Ta := ⟨40, ⟨#[]⟩, [⟨strangeN, [⟨false, ⟨#[49]⟩⟩]⟩]⟩
theorem do_names {ys : List Co} {o : Po} (hc : canL ys.length o = true) : ∀ s ∈ namesL (doL ys o), s ∈ namesL ys := by
  intro s hs
  unfold doL at hs
  split at hs
  · rename_i h3
    have hc2 : o.cols.all (thereL ys.length) = true := by
      unfold canL at hc
      rw [if_neg (by omega), if_neg (by omega), if_pos h3] at hc
      simp only [Bool.and_eq_true] at hc
      exact hc.1
    obtain ⟨c, hcm, rfl⟩ := List.mem_map.1 hs
    obtain ⟨k, hk, rfl⟩ := List.mem_map.1 hcm
    have h4 := List.all_eq_true.1 hc2 k hk
    simp only [thereL, Bool.and_eq_true, decide_eq_true_eq] at h4
    exact List.mem_map_of_mem (getD_mem (by omega) _)
  · obtain ⟨c, hcm, rfl⟩ := List.mem_map.1 hs
    obtain ⟨x, hx, rfl⟩ := List.mem_map.1 hcm
    exact List.mem_map.2 ⟨x, hx, rfl⟩
theorem do_none {ys : List Co} {o : Po} (hc : canL ys.length o = true) (h0 : ys = []) : doL ys o = [] := by
  apply List.eq_nil_iff_forall_not_mem.2
  intro c hm
  have h := do_names hc c.name (List.mem_map_of_mem hm)
  rw [h0] at h
  cases h
end Go.Proofs.YtaajpliifdlokaaGreatDoor

namespace Go.Proofs.YtaajpliifdlokaaGreatDoor
open Go.RowKit
end Go.Proofs.YtaajpliifdlokaaGreatDoor

namespace Go.Proofs.YtaajpliifdlokaaGreatDoor
open Go.RowKit
def OpRow (w : World) (B base : Nat) (v : Value) (os : List Po) : Prop :=
  B ≤ base ∧ ∃ uv, w.ownsRow base 122 4 v os.length (flatK 4 os.length (poF os uv)) ∧ ∀ i, i < os.length → RdKs w (· < B) (uv i) (os.getD i Po.z).cols
def PoB (w : World) (B : Nat) (v : Value) (os : List Po) : Prop :=
  ∃ uv, InK 4 w (· < w.heap.size) v os.length (poF os uv) ∧ ∀ i, i < os.length → RdKs w (· < B) (uv i) (os.getD i Po.z).cols
theorem OpRow.start (w : World) {B base : Nat} (h : B ≤ base) : OpRow w B base (.slice none 0 0) [] := ⟨h, fun _ => .bool false, World.ownsRow_nil _ _ _ _, fun i hi => absurd hi (by simp)⟩
theorem OpRow.later {w w' : World} {B base : Nat} {v : Value} {os : List Po} (h : OpRow w B base v os) (hb : Below w.heap.size w w') (hB : base ≤ w.heap.size) : OpRow w' B base v os := by
  obtain ⟨h0, uv, h1, h2⟩ := h
  exact ⟨h0, uv, own_later h1 hb, fun i hi => InK.keep (h2 i hi) fun p (hp : p.block < B) => hb.cell (p := p) (by omega)⟩
theorem OpRow.src {w : World} {B base : Nat} {v : Value} {os : List Po} (h : OpRow w B base v os) : PoB w B v os := by
  obtain ⟨-, uv, h1, h2⟩ := h
  exact ⟨uv, (inK_of_owns h1).more fun b hb => (h1.lt b hb).2, h2⟩
theorem PoB.read {w : World} {B : Nat} {v : Value} {os : List Po} (h : PoB w B v os) (hB : B ≤ w.heap.size) : RdPo w (· < w.heap.size) v os := by
  obtain ⟨uv, h1, h2⟩ := h
  exact ⟨uv, h1, fun i hi => InK.more (h2 i hi) fun b (hb : b < B) => Nat.lt_of_lt_of_le hb hB⟩
theorem PoB.later {w w' : World} {B : Nat} {v : Value} {os : List Po} (h : PoB w B v os) (hb : Below w.heap.size w w') (hB : B ≤ w.heap.size) : PoB w' B v os := by
  obtain ⟨uv, h1, h2⟩ := h
  exact ⟨uv, (h1.keep fun p (hp : p.block < w.heap.size) => hb.cell (p := p) hp).more fun b (hb' : b < w.heap.size) => Nat.lt_of_lt_of_le hb' hb.size, fun i hi => InK.keep (h2 i hi) fun p (hp : p.block < B) => hb.cell (p := p) (by omega)⟩
theorem PoB.nil (w : World) (B : Nat) : PoB w B (.slice none 0 0) [] := ⟨fun _ => .bool false, InK.nil, fun i hi => absurd hi (by simp)⟩
theorem PoB.bare {w : World} {B : Nat} {v : Value} {os : List Po} (h : RdPo w (· < w.heap.size) v os) (hc : ∀ o ∈ os, o.cols = []) : PoB w B v os := by
  obtain ⟨uv, h1, h2⟩ := h
  refine ⟨uv, h1, fun i hi => ?_⟩
  have hk := h2 i hi
  have e := hc _ (getD_mem hi Po.z)
  rw [e] at hk ⊢
  obtain ⟨a, c, e1, h3, h4, -⟩ := hk
  exact ⟨a, c, e1, h3, h4, fun hp => absurd hp (by simp)⟩
theorem PoB.one {w : World} {B b : Nat} {e : TypeId} {o : Po} {u : Value} (hb : BoxN w b e #[.int .i64 o.kind, .int .i64 o.col, .string o.text, u]) (hu : RdKs w (· < B) u o.cols) : PoB w B (.slice (some ⟨b, 0, none⟩) 1 1) [o] := by
  refine ⟨fun _ => u, ⟨some ⟨b, 0, none⟩, 1, rfl, Nat.le_refl _, by unfold maxLen; omega, fun _ => ⟨b, 0, rfl, hb.lt, fun i hi j hj => ?_⟩⟩, fun i hi => ?_⟩
  · have hi0 : i = 0 := Nat.lt_one_iff.1 hi
    subst hi0
    rcases (show j = 0 ∨ j = 1 ∨ j = 2 ∨ j = 3 by omega) with rfl | rfl | rfl | rfl
    · exact hb.cell 0 rfl
    · exact hb.cell 1 rfl
    · exact hb.cell 2 rfl
    · exact hb.cell 3 rfl
  · have hi0 : i = 0 := Nat.lt_one_iff.1 hi
    subst hi0
    exact hu
theorem OpRow.form {w : World} {B base : Nat} {v : Value} {os : List Po} (h : OpRow w B base v os) : ∃ a c, v = .slice a os.length c := by
  obtain ⟨-, uv, h1, -⟩ := h
  exact own_slice h1
theorem PoB.form {w : World} {B : Nat} {v : Value} {os : List Po} (h : PoB w B v os) : ∃ a c, v = .slice a os.length c := by
  obtain ⟨uv, ⟨a, c, e, -⟩, -⟩ := h
  exact ⟨a, c, e⟩
theorem pob_at {w : World} {B q : Nat} {v : Value} {os : List Po} (h : PoB w B v os) (hq : q < os.length) : ∃ b o c x n y, v = .slice (some ⟨b, o, none⟩) os.length c ∧ b < w.heap.size ∧ RdKs w (· < B) (.slice x n y) (os.getD q Po.z).cols ∧
    w.cell? ⟨b, o + q * 4, none⟩ = some (.int .i64 (os.getD q Po.z).kind) ∧ w.cell? ⟨b, o + q * 4 + 1, none⟩ = some (.int .i64 (os.getD q Po.z).col) ∧ w.cell? ⟨b, o + q * 4 + 2, none⟩ = some (.string (os.getD q Po.z).text) ∧ w.cell? ⟨b, o + q * 4 + 3, none⟩ = some (.slice x n y) := by
  obtain ⟨uv, ⟨a, c, rfl, -, -, hr⟩, hk⟩ := h
  obtain ⟨b, o, rfl, hb, hc⟩ := hr (by omega)
  have hkq := hk q hq
  obtain ⟨x, y, e, -⟩ := hk q hq
  have h3 := hc q hq 3 (by omega)
  have e3 : poF os uv q 3 = uv q := rfl
  rw [e3, e] at h3
  rw [e] at hkq
  exact ⟨b, o, c, x, _, y, rfl, hb, hkq, hc q hq 0 (by omega), hc q hq 1 (by omega), hc q hq 2 (by omega), h3⟩
theorem info_opH : (Tryz.prog.info? 122).map (fun i => (i.zero, i.size, i.bytes)) = some (some (.agg #[.int .i64 0, .int .i64 0, .string ⟨#[]⟩, .slice none 0 0]), 4, 56) := by kernel_rfl
set_option maxRecDepth 100000 in
theorem wpList_append_ops {w : World} {ops : Array Oper} {rest : List Oper} {o : Oper} {a : Act} {Q : Exit → Act → World → Prop} (hgd : o.guard = none) (s x : Operand)
  (ho : o.op = .call { callee := .builtin .append, args := #[s, x], argTypes := #[74, 74] })
  (B base : Nat) (av : Option Addr) (n cv : Nat) (f : List Po) (hs : a.eval s = .slice av n cv) (hF : OpRow w B base (.slice av n cv) f) (hn : f.length = n)
  (ao : Option Addr) (m c : Nat) (p : List Po) (hx : a.eval x = .slice ao m c) (hP : PoB w B (.slice ao m c) p) (hm : p.length = m) (h64 : n + m ≤ 64) (hbase : base ≤ w.heap.size) (k : Nat) (hk : n + m = k)
  (h : ∀ a' cap w', OpRow w' B base (.slice a' k cap) (f ++ p) → w.grownBy w' (Value.slice av n cv).ownBlock → wpList Tryz.prog ops Q rest (a.put o.dst (.slice a' k cap)) w') : wpList Tryz.prog ops Q (o :: rest) a w := by
 obtain ⟨j0, hj0, hy0, hy1, hy2⟩ := info_parts info_opH
 obtain ⟨hBb, uv, hown, huv⟩ := hF
 obtain ⟨up, ⟨a1, c1, e1, hc1, hc2, hr⟩, hup⟩ := hP
 obtain ⟨rfl, -, rfl⟩ := Value.slice.inj e1
 subst hn hm
 refine wpList_append_any hgd s x 74 74 ho base 122 122 j0 (.agg #[.int .i64 0, .int .i64 0, .string ⟨#[]⟩, .slice none 0 0]) 4 56 Tryz.underlying74 Tryz.underlying74 hj0 hy0 hy1 hy2 rfl (by decide)
  av f.length cv _ hs hown ao p.length c (flatK 4 p.length (poF p up)) hx (flatK_len _ _ _) (fun hp => ?_) (fun u hu => ?_) (by unfold maxLen; omega) (by omega) hbase k hk fun a' cap w' h1 h2 => ?_
 ·obtain ⟨b, o', rfl, hb, hcell⟩ := hr hp
  refine ⟨_, rfl, fun j u hj => ?_⟩
  have hlt : j < p.length * 4 := by
   have := (List.getElem?_eq_some_iff.1 hj).1
   rwa [flatK_len] at this
  have hd : j / 4 < p.length := by omega
  have e : j = j / 4 * 4 + j % 4 := by omega
  have h3 := hcell (j / 4) hd (j % 4) (by omega)
  have h4 := flatK_at (k := 4) (f := poF p up) hd (show j % 4 < 4 by omega)
  rw [← e] at h4
  rw [h4] at hj
  rw [Addr.add_lit]
  rw [Nat.add_assoc, ← e] at h3
  rw [h3]
  exact hj
 ·obtain ⟨j, hj, e⟩ := List.getElem_of_mem hu
  have hjl : j < p.length * 4 := by rwa [flatK_len] at hj
  have h4 := flatK_at (k := 4) (f := poF p up) (show j / 4 < p.length by omega) (show j % 4 < 4 by omega)
  rw [show j / 4 * 4 + j % 4 = j by omega, List.getElem?_eq_getElem hj, e] at h4
  rw [Option.some.inj h4]
  exact po_one hup _ (by omega) _ (by omega)
 ·have hb : ∀ q : Addr, q.block < B → w'.cell? q = w.cell? q := fun q hq => h2.cell_far q (by omega) (fun e => by have := (hown.lt _ e.symm).1; omega)
  have h3 : w'.ownsRow base 122 4 (.slice a' k cap) (f.length + p.length) (flatK 4 f.length (poF f uv) ++ flatK 4 p.length (poF p up)) := by rw [hk]; exact h1
  obtain ⟨-, uw, e, hw⟩ := po_append (S := fun _ => True) (S2 := (· < B)) h3 (fun _ _ => trivial) (fun _ _ => trivial) (fun i hi => InK.keep (huv i hi) fun q (hq : q.block < B) => hb q hq) (fun i hi => InK.keep (hup i hi) fun q (hq : q.block < B) => hb q hq)
  refine h a' cap w' ⟨hBb, uw, ?_, hw⟩ h2
  rw [← e]
  rw [show (f ++ p).length = k by rw [List.length_append]; exact hk]
  exact h1
theorem box_store {W : World} {g : Nat} {t : TypeId} {z : Int} {s : ByteArray} {ta : Option Addr} {tn tc : Nat} {S S' : Nat → Prop} {v : Value} {new prev : List Co} (hb : BoxN W g t #[.int .i64 z, .string s, .slice ta tn tc]) (hn : RdCo W S v new) (hp : RdCo W S' (.slice ta tn tc) prev) (hne : new ≠ [] → prev ≠ []) (u : Value) :
    RdCo (((W.setCell ⟨g, 0, none⟩ (.int .i64 z)).setCell ⟨g, 1, none⟩ (.string s)).setCell ⟨g, 2, none⟩ u) S v new := by
  have h2 := hb.cell 2 rfl
  have hc : ∀ p : Addr, p ≠ ⟨g, 2, none⟩ → (((W.setCell ⟨g, 0, none⟩ (.int .i64 z)).setCell ⟨g, 1, none⟩ (.string s)).setCell ⟨g, 2, none⟩ u).cell? p = W.cell? p := fun p hp => by
    rw [World.cell?_setCell_other _ _ _ _ (Ne.symm hp)]
    by_cases h1 : p = ⟨g, 1, none⟩
    · subst h1
      exact (((hb.set 0 (.int .i64 z)).set 1 (.string s)).cell 1 rfl).trans (hb.cell 1 rfl).symm
    · rw [World.cell?_setCell_other _ _ _ _ (Ne.symm h1)]
      by_cases h0 : p = ⟨g, 0, none⟩
      · subst h0
        exact ((hb.set 0 (.int .i64 z)).cell 0 rfl).trans (hb.cell 0 rfl).symm
      · rw [World.cell?_setCell_other _ _ _ _ (Ne.symm h0)]
  obtain ⟨cv, ⟨a, c, rfl, h3, h4, hr⟩, hk⟩ := hn
  refine ⟨cv, ⟨a, c, rfl, h3, h4, fun h0 => ?_⟩, fun i hi => ?_⟩
  · obtain ⟨b, o, e, hS, hcell⟩ := hr h0
    refine ⟨b, o, e, hS, fun i hi j hj => ?_⟩
    have hv := hcell i hi j hj
    rw [hc _ fun e2 => ?_]
    · exact hv
    · rw [e2, h2] at hv
      have hv := Option.some.inj hv
      rcases (show j = 0 ∨ j = 1 by omega) with rfl | rfl
      · cases hv
      · have hv : Value.slice ta tn tc = cv i := hv
        have hki := hk i hi
        rw [← hv] at hki
        have hpn : prev ≠ [] := hne fun e3 => by rw [e3] at hi; cases hi
        obtain ⟨a1, c1, e4, -, -, hr1⟩ := hki
        obtain ⟨-, e5, -⟩ := Value.slice.inj e4
        obtain ⟨pv, ⟨a2, c2, e6, -, -, hr2⟩, -⟩ := hp
        obtain ⟨e7, e8, -⟩ := Value.slice.inj e6
        obtain ⟨e9, -, -⟩ := Value.slice.inj e4
        have hl : 0 < prev.length := List.length_pos_iff.2 hpn
        obtain ⟨b1, o1, f1, -, g1⟩ := hr1 (by omega)
        obtain ⟨b2, o2, f2, -, g2⟩ := hr2 hl
        have k1 := g1 0 (by omega) 0 (by omega)
        have k2 := g2 0 hl 0 (by omega)
        rw [← e9, e7, f2] at f1
        have f3 := Option.some.inj f1
        injection f3 with f4 f5
        subst f4 f5
        rw [k1] at k2
        cases Option.some.inj k2
  · obtain ⟨a1, c1, e4, h5, h6, hr1⟩ := hk i hi
    refine ⟨a1, c1, e4, h5, h6, fun h0 => ?_⟩
    obtain ⟨b, o, e, hS, hcell⟩ := hr1 h0
    refine ⟨b, o, e, hS, fun i' hi' j hj => ?_⟩
    have hv := hcell i' hi' j hj
    rw [hc _ fun e2 => ?_]
    · exact hv
    · rw [e2, h2] at hv
      have hv := Option.some.inj hv
      rcases (show j = 0 ∨ j = 1 by omega) with rfl | rfl
      · cases hv
      · cases hv
end Go.Proofs.YtaajpliifdlokaaGreatDoor
