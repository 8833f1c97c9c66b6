/- Contract of fraction's product of words. Contracts of bits.Add32, bits.Sub32, words.at. Contracts of words.minus and words.plus. Contract of words.plus. -/
import Derived.Test.YthblaeleogdfpaaGreatDoorCToal
import Derived.OpenShut
import Derived.IntWalk
import Derived.Test.YthblaeleogdfpaaGreatDoorCToak
import Derived.Deep.Cut
import Derived.Deep.RegionHeld3
import Derived.Test.YthblaeleogdfpaaGreatDoorCToam
set_option linter.unusedVariables false
set_option linter.unusedSimpArgs false
namespace Go.Proofs.YthblaeleogdfpaaGreatDoor.Fr
open Go.RowKit
set_option maxRecDepth 100000 in
set_option maxHeartbeats 2000000 in
theorem frac_times (u v : Value) (xs ys : List Nat) (w : World) (hx : Rd32 w u xs) (hy : Rd32 w v ys) (hlx : xs.length ≤ 1073741824) (hly : ys.length ≤ 1073741824) :
  Calls Tryz.prog 183 #[u, v] w (GivesD w (val xs * val ys)) := by
 obtain ⟨a, c, rfl, hc, hm, hxr, hxc⟩ := hx
 obtain ⟨a', c', rfl, hc', hm', hyr, hyc⟩ := hy
 unfold maxLen at hm hm'
 obtain ⟨i0, hi, hz0, hz1, hz2⟩ := info_parts info_u32
 obtain ⟨n, hn⟩ : ∃ n, n = xs.length := ⟨_, rfl⟩
 obtain ⟨n', hn'⟩ : ∃ n, n = ys.length := ⟨_, rfl⟩
 rw [← hn] at hc hxc hlx ⊢
 rw [← hn'] at hc' hyc hly ⊢
 have HN := hid hn
 have HN' := hid hn'
 have HX := hid hxr
 have HY := hid hyr
 have HXC := hid hxc
 have HYC := hid hyc
 clear hn hn' hxr hyr hxc hyc
 go_enter Tryz.func183, Tryz.ntmps183
 go_wp2_with (at_make; refine wpList_make_full _ rfl _ _ 210 rfl w.heap.size 157 i0 (.int .u32 0) 1 Tryz.underlying210 hi hz0 hz1 _ _ _ _ (n + n') rfl rfl (by omega) (by omega) (by rw [hz2]; omega) (by unfold maxLen; omega) (Nat.le_refl _) ?_)
 intro w1 hown hgrow
 have hO := Own32.of_made hown
 have hb1 : Below w.heap.size w w1 := (Below.refl _ _).grown hgrow (Nat.le_refl _) (fun k h => by cases h)
 have HO := hid hO
 have HB1 := hid hb1
 clear hown hgrow hO hb1
 generalize hg : w.heap.size = g at *
 have HG := hid hg
 clear hg
 go_wp2
 go_loopw [19] (fun i wr => ∃ k : Nat, k ≤ n ∧ i = .int .i64 k ∧ ∃ zs, Own32 wr g (n + n') zs ∧ val zs = vt xs k * val ys ∧ (∀ p, k + n' ≤ p → zs.getD p 0 = 0) ∧ Below g w wr) (fun i _ => n - (intOf i).toNat)
 case atStart => exact ⟨0, by omega, rfl, _, HO.out, by rw [val_replicate]; simp [vt, val], fun p _ => by simp only [List.getD, List.getElem?_replicate]; split <;> rfl, HB1.out⟩
 case round =>
  clear HB1 HO
  obtain ⟨k, hk, rfl, zs, hzo, hzv, hzz, hbl⟩ := hrel
  have HO := hid hzo
  have HV := hid hzv
  have HZ := hid hzz
  have HB := hid hbl
  clear hzo hzv hzz hbl
  by_cases h1 : k < n
  ·obtain ⟨b, o, rfl, hb, hcell⟩ := HXC.out (by omega)
   have hbg : b < g := by have := HG.out; omega
   have HCX := hid (hcell k h1)
   have hxk := HX.out k
   have HXK : Hid (xs.getD k 0 = xs.getD k 0) := hid rfl
   clear hcell
   obtain ⟨x, hxe⟩ : ∃ x, x = xs.getD k 0 := ⟨_, rfl⟩
   rw [← hxe] at HCX hxk
   have HXE := hid hxe
   clear hxe HXK
   obtain ⟨wo, rfl⟩ : ∃ wo : World, wo = wr := ⟨_, rfl⟩
   have hcx0 := (HB.out.cell (p := ⟨b, o + k, none⟩) hbg).trans HCX.out
   go_wp2
   clear hcx0
   go_loopw [8, 26] (fun cv jv wr => ∃ j cy : Nat, j ≤ n' ∧ jv = .int .i64 j ∧ cv = .int .u64 cy ∧ cy < 4294967296 ∧ ∃ zs, Own32 wr g (n + n') zs ∧ val zs + 4294967296 ^ (k + j) * cy = vt xs k * val ys + x * (4294967296 ^ k * vt ys j) ∧ (∀ p, k + n' ≤ p → zs.getD p 0 = 0) ∧ Below g w wr) (fun _ jv _ => n' - (intOf jv).toNat)
   case atStart => exact ⟨0, 0, by omega, rfl, rfl, by omega, zs, HO.out, by rw [HV.out, vt_zero]; simp, HZ.out, HB.out⟩
   case round =>
    clear HO HV HZ HB
    obtain ⟨j, cy, hj, rfl, rfl, hcy, zs, hzo, hzv, hzz, hbl⟩ := hrel
    have HO := hid hzo
    have HV := hid hzv
    have HZ := hid hzz
    have HB := hid hbl
    clear hzo hzv hzz hbl
    have hcx := (HB.out.cell (p := ⟨b, o + k, none⟩) hbg).trans HCX.out
    by_cases h2 : j < n'
    ·obtain ⟨b', o', rfl, hb', hcell⟩ := HYC.out (by omega)
     have hcy' := (HB.out.cell (p := ⟨b', o' + j, none⟩) (by have := HG.out; omega)).trans (hcell j h2)
     clear hcell
     have hyj := HY.out j
     obtain ⟨hcz, hfz⟩ := HO.out.2.2.2 (k + j) (by omega)
     have hzj := HO.out.2.1 (k + j)
     have HST := hid (fun t ht => mul_step (t := t) (by rw [HO.out.1]; omega) HV.out ht)
     have hmb := mul_bound hxk hyj hcy hzj
     obtain ⟨m, hme⟩ : ∃ m, m = x * ys.getD j 0 := ⟨_, rfl⟩
     rw [← hme] at HST hmb
     have hme' : ((x : Nat) : Int) * ((ys.getD j 0 : Nat) : Int) = (m : Int) := by rw [hme]; simp
     generalize ys.getD j 0 = y at *
     generalize zs.getD (k + j) 0 = z at *
     clear hme
     have hm1 := hmb.1
     have hm2 := hmb.2
     clear hmb
     go_wp2
     have hst := HST.out _ rfl
     have HST2 := hid hst
     clear hst HST hcx hcy'
     have hset := HO.out.set (show k + j < n + n' by omega) (show (cy + (m + z)) % 4294967296 < 4294967296 by omega)
     have HO2 := hid hset
     clear hset
     go_roundw
     case rel => exact ⟨j + 1, (cy + (m + z)) / 4294967296, by omega, by go_num, by go_num, by omega, zs.set (k + j) ((cy + (m + z)) % 4294967296), HO2.out, HST2.out, fun p hp => by rw [getD_set_other (by omega)]; exact HZ.out p hp, HB.out.setCell (Nat.le_refl _) _⟩
     case measure => simp [intOf]; omega
    ·obtain rfl : n' = j := by omega
     obtain ⟨hcz, hfz⟩ := HO.out.2.2.2 (k + n') (by omega)
     have hv2 := HV.out
     rw [HXE.out] at hv2
     have hrow := mul_row (by rw [HO.out.1]; omega) (HZ.out _ (Nat.le_refl _)) (by have := HN'.out; omega) hv2
     have HR := hid hrow
     have HO2 := hid (HO.out.set (show k + n' < n + n' by omega) hcy)
     rw [HZ.out _ (Nat.le_refl _)] at hcz
     clear hrow hv2 hcx
     go_wp2
     go_roundw
     case rel => exact ⟨k + 1, by omega, by go_num, zs.set (k + n') cy, HO2.out, HR.out, fun p hp => by rw [getD_set_other (by omega)]; exact HZ.out p (by omega), HB.out.setCell (Nat.le_refl _) _⟩
     case measure => simp [intOf]; omega
  ·have hV : val zs = val xs * val ys := by rw [HV.out, vt_all xs k (by have := HN.out; omega)]
   have HF := hid hV
   have hgl := HG.out
   clear hV
   go_wp2_with fail
   refine (frac_trimmed _ _ _ (HO.out.rd (Nat.le_refl _) (by unfold maxLen; omega))).mono ?_
   rintro e w' ⟨a2, c2, rfl, hv2, ho2, k2, rfl⟩
   rw [HF.out] at hv2 ho2
   rw [HF.out]
   have HV2 := hid (hv2 _ (HO.out.rd (Nat.le_refl _) (by unfold maxLen; omega)))
   have HO2 := hid ho2
   clear hv2 ho2
   go_wp2
   go_ret
   exact ⟨_, _, rfl, HV2.out, fun R hR => HO2.out R (Off.of_lt (by omega)), by rw [hgl]; exact below_drewN HB.out⟩
end Go.Proofs.YthblaeleogdfpaaGreatDoor.Fr

namespace Go.Proofs.YthblaeleogdfpaaGreatDoor.Fr
open Go.RowKit
theorem wrap_u32 (A : BitVec 32) : IntKind.u32.wrap (A.toNat : Int) = (A.toNat : Int) := by
 have := A.isLt
 simp only [IntKind.wrap, IntKind.bits, IntKind.signed]
 simp
 omega
theorem ofInt_toNat (A : BitVec 32) : BitVec.ofInt 32 (A.toNat : Int) = A := by
 simp
theorem bits_and32 (A B : BitVec 32) : bits .and .u32 (A.toNat : Int) (B.toNat : Int) = ((A &&& B).toNat : Int) := by
 unfold bits
 show IntKind.u32.wrap (((BitVec.ofInt 32 (A.toNat : Int)) &&& (BitVec.ofInt 32 (B.toNat : Int)) : BitVec 32).toNat : Int) = _
 rw [ofInt_toNat, ofInt_toNat, wrap_u32]
theorem bits_or32 (A B : BitVec 32) : bits .or .u32 (A.toNat : Int) (B.toNat : Int) = ((A ||| B).toNat : Int) := by
 unfold bits
 show IntKind.u32.wrap (((BitVec.ofInt 32 (A.toNat : Int)) ||| (BitVec.ofInt 32 (B.toNat : Int)) : BitVec 32).toNat : Int) = _
 rw [ofInt_toNat, ofInt_toNat, wrap_u32]
theorem bits_xor32 (A B : BitVec 32) : bits .xor .u32 (A.toNat : Int) (B.toNat : Int) = ((A ^^^ B).toNat : Int) := by
 unfold bits
 show IntKind.u32.wrap (((BitVec.ofInt 32 (A.toNat : Int)) ^^^ (BitVec.ofInt 32 (B.toNat : Int)) : BitVec 32).toNat : Int) = _
 rw [ofInt_toNat, ofInt_toNat, wrap_u32]
theorem max_u32 : IntKind.u32.max = ((BitVec.allOnes 32).toNat : Int) := by decide
theorem top32 (A : BitVec 32) : ((A.toNat : Int) / 2147483648) = if A.msb then 1 else 0 := by
 have h := A.isLt
 rw [BitVec.msb_eq_decide]
 by_cases h1 : 2 ^ (32 - 1) ≤ A.toNat
 ·simp [h1]
  omega
 ·simp [h1]
  omega
theorem borrow_bits (x y d : Nat) (hx : x < 4294967296) (hy : y < 4294967296) (hd : d < 4294967296) :
  bits .or .u32 (bits .and .u32 (bits .xor .u32 IntKind.u32.max (x : Int)) (y : Int)) (bits .and .u32 (bits .xor .u32 IntKind.u32.max (bits .xor .u32 (x : Int) (y : Int))) (d : Int)) / 2147483648
   = if (x < 2147483648 ∧ 2147483648 ≤ y) ∨ ((x < 2147483648 ↔ y < 2147483648) ∧ 2147483648 ≤ d) then 1 else 0 := by
 obtain ⟨X, rfl⟩ : ∃ X : BitVec 32, X.toNat = x := ⟨BitVec.ofNat 32 x, by simp; omega⟩
 obtain ⟨Y, rfl⟩ : ∃ X : BitVec 32, X.toNat = y := ⟨BitVec.ofNat 32 y, by simp; omega⟩
 obtain ⟨D, rfl⟩ : ∃ X : BitVec 32, X.toNat = d := ⟨BitVec.ofNat 32 d, by simp; omega⟩
 rw [max_u32, bits_xor32, bits_and32, bits_xor32, bits_xor32, bits_and32, bits_or32, top32]
 have hX : X.msb = decide (2147483648 ≤ X.toNat) := BitVec.msb_eq_decide X
 have hY : Y.msb = decide (2147483648 ≤ Y.toNat) := BitVec.msb_eq_decide Y
 have hD : D.msb = decide (2147483648 ≤ D.toNat) := BitVec.msb_eq_decide D
 have h1 : (BitVec.allOnes 32).msb = true := by decide
 simp only [BitVec.msb_or, BitVec.msb_and, BitVec.msb_xor, h1, hX, hY, hD]
 by_cases a : 2147483648 ≤ X.toNat <;> by_cases b : 2147483648 ≤ Y.toNat <;> by_cases c : 2147483648 ≤ D.toNat <;> simp [a, b, c] <;> omega
set_option maxHeartbeats 400000 in
theorem bits_Add32 (x y c : Nat) (hx : x < 4294967296) (hy : y < 4294967296) (hc : c ≤ 1) (w : World) :
  Calls Tryz.prog 239 #[.int .u32 (x : Int), .int .u32 (y : Int), .int .u32 (c : Int)] w (fun e w' => e = .returned (.tuple #[.int .u32 (((x + y + c) % 4294967296 : Nat) : Int), .int .u32 (((x + y + c) / 4294967296 : Nat) : Int)]) ∧ w = w') := by
 obtain ⟨s, hs⟩ : ∃ s, s = (x + y + c) % 4294967296 := ⟨_, rfl⟩
 obtain ⟨k, hk⟩ : ∃ k, k = (x + y + c) / 4294967296 := ⟨_, rfl⟩
 have e1 : ((x : Int) + y + c) % 4294967296 = (s : Int) := by omega
 have e2 : ((x : Int) + y + c) / 4294967296 = (k : Int) := by omega
 rw [← hs, ← hk]
 have E1 := hid e1
 have E2 := hid e2
 clear hs hk e1 e2
 go_enter Tryz.func239, Tryz.ntmps239
 go_wp2
 rw [E1.out, E2.out]
 go_ret2
 exact ⟨rfl, rfl⟩
set_option maxHeartbeats 400000 in
theorem bits_Sub32 (x y b : Nat) (hx : x < 4294967296) (hy : y < 4294967296) (hb : b ≤ 1) (w : World) :
  Calls Tryz.prog 242 #[.int .u32 (x : Int), .int .u32 (y : Int), .int .u32 (b : Int)] w (fun e w' => e = .returned (.tuple #[.int .u32 (((x + 4294967296 - y - b) % 4294967296 : Nat) : Int), .int .u32 ((if x < y + b then 1 else 0 : Nat) : Int)]) ∧ w = w') := by
 obtain ⟨d, hd⟩ : ∃ d, d = (x + 4294967296 - y - b) % 4294967296 := ⟨_, rfl⟩
 obtain ⟨k, hk⟩ : ∃ k : Nat, k = if x < y + b then 1 else 0 := ⟨_, rfl⟩
 have e1 : ((x : Int) - y - b) % 4294967296 = (d : Int) := by omega
 have e2 := borrow_bits x y d hx hy (by omega)
 have e3 : (if (x < 2147483648 ∧ 2147483648 ≤ y) ∨ ((x < 2147483648 ↔ y < 2147483648) ∧ 2147483648 ≤ d) then 1 else 0 : Int) = (k : Int) := by
  subst hk
  by_cases h1 : x < 2147483648 <;> by_cases h2 : y < 2147483648 <;> by_cases h3 : 2147483648 ≤ d <;> by_cases h4 : x < y + b <;> simp [h1, h2, h3, h4] <;> omega
 rw [e3] at e2
 rw [← hd, ← hk]
 have E2 := hid e2
 clear hd hk e3 e2
 go_enter Tryz.func242, Tryz.ntmps242
 go_wp2
 rw [E2.out]
 go_ret2
 exact ⟨rfl, rfl⟩
theorem frac_at (u : Value) (xs : List Nat) (i : Nat) (w : World) (hx : Rd32 w u xs) (hi : i ≤ 1099511627776) :
  Calls Tryz.prog 240 #[u, .int .i64 (i : Int)] w (fun e w' => e = .returned (.int .u32 ((xs.getD i 0 : Nat) : Int)) ∧ w = w') := by
 obtain ⟨a, c, rfl, hc, hm, hxr, hxc⟩ := hx
 unfold maxLen at hm
 obtain ⟨n, hn⟩ : ∃ n, n = xs.length := ⟨_, rfl⟩
 rw [← hn] at hc hxc ⊢
 by_cases h : i < n
 ·obtain ⟨b, o, rfl, hb, hcell⟩ := hxc (by omega)
  have hk := hcell i h
  have hxi := hxr i
  clear hcell hxc hxr
  generalize xs.getD i 0 = x at *
  have hd : decide ((i : Int) < (n : Int)) = true := decide_eq_true (by omega)
  clear hn
  go_enter Tryz.func240, Tryz.ntmps240
  go_wp2
  go_ret
  exact ⟨rfl, rfl⟩
 ·have h0 : xs.getD i 0 = 0 := getD_beyond (by omega)
  rw [h0]
  have hd : decide ((i : Int) < (n : Int)) = false := decide_eq_false (by omega)
  clear hxc hxr h0 hn
  go_enter Tryz.func240, Tryz.ntmps240
  go_wp2
  go_ret
  exact ⟨rfl, rfl⟩
end Go.Proofs.YthblaeleogdfpaaGreatDoor.Fr

namespace Go.Proofs.YthblaeleogdfpaaGreatDoor.Fr
open Go.RowKit
theorem sub_step' {zs xs ys : List Nat} {q k d q' : Nat} (hk : k < zs.length) (hz : zs.getD k 0 = 0) (h : val zs + vt ys k = vt xs k + 4294967296 ^ k * q) (he : d + ys.getD k 0 + q = xs.getD k 0 + 4294967296 * q') :
  val (zs.set k d) + vt ys (k + 1) = vt xs (k + 1) + 4294967296 ^ (k + 1) * q' := by
 have h1 := val_set (d := d) hk
 rw [hz, Nat.mul_zero, Nat.add_zero] at h1
 rw [h1, vt_succ, vt_succ, Nat.pow_succ]
 generalize 4294967296 ^ k = P at *
 have e2 : P * d + P * ys.getD k 0 + P * q = P * xs.getD k 0 + P * 4294967296 * q' := by
  rw [← Nat.mul_add, ← Nat.mul_add, he, Nat.mul_add, Nat.mul_assoc]
 omega
set_option maxRecDepth 100000 in
set_option maxHeartbeats 2000000 in
theorem frac_minus (u v : Value) (xs ys : List Nat) (w : World) (hx : Rd32 w u xs) (hy : Rd32 w v ys) (hlx : xs.length ≤ 1073741824) (hle : val ys ≤ val xs) (hll : ys.length ≤ xs.length) :
  Calls Tryz.prog 182 #[u, v] w (GivesD w (val xs - val ys)) := by
 have HAT := hid (fun k (hk : k ≤ 1073741824) W (hW : Below w.heap.size w W) => frac_at v ys k W (hy.kept hW) (by omega))
 obtain ⟨a, c, rfl, hc, hm, hxr, hxc⟩ := hx
 unfold maxLen at hm
 obtain ⟨i0, hi, hz0, hz1, hz2⟩ := info_parts info_u32
 obtain ⟨n, hn⟩ : ∃ n, n = xs.length := ⟨_, rfl⟩
 rw [← hn] at hc hxc hlx hll ⊢
 have HN := hid hn
 have HX := hid hxr
 have HXC := hid hxc
 have HLE := hid hle
 obtain ⟨a', c', rfl, hc', hm', hyr, -⟩ := hy
 have HYR := hid hyr
 generalize hyl : ys.length = n' at *
 have HYL := hid hyl
 clear hn hxr hxc hle hyr hyl
 go_enter Tryz.func182, Tryz.ntmps182
 go_wp2_with (at_make; refine wpList_make_full _ rfl _ _ 210 rfl w.heap.size 157 i0 (.int .u32 0) 1 Tryz.underlying210 hi hz0 hz1 _ _ _ _ n rfl rfl (by omega) (by omega) (by rw [hz2]; omega) (by unfold maxLen; omega) (Nat.le_refl _) ?_)
 intro w1 hown hgrow
 have hO := Own32.of_made hown
 have hb1 : Below w.heap.size w w1 := (Below.refl _ _).grown hgrow (Nat.le_refl _) (fun k h => by cases h)
 have HO := hid hO
 have HB1 := hid hb1
 clear hown hgrow hO hb1
 generalize hg : w.heap.size = g at *
 have HG := hid hg
 clear hg
 go_wp2
 go_loopw [6, 13] (fun cv iv wr => ∃ k q : Nat, k ≤ n ∧ iv = .int .i64 k ∧ cv = .int .u32 (q : Int) ∧ q ≤ 1 ∧ ∃ zs : List Nat, Own32 wr g n zs ∧ val zs + vt ys k = vt xs k + 4294967296 ^ k * q ∧ (∀ p, k ≤ p → zs.getD p 0 = 0) ∧ Below g w wr) (fun _ i _ => n - (intOf i).toNat)
 case atStart => exact ⟨0, 0, by omega, rfl, rfl, by omega, _, HO.out, by rw [val_replicate]; simp [vt], fun p _ => by simp only [List.getD, List.getElem?_replicate]; split <;> rfl, HB1.out⟩
 case round =>
  clear HO HB1
  obtain ⟨k, q, hk, rfl, rfl, hq, zs, hzo, hzv, hzz, hbl⟩ := hrel
  have HO := hid hzo
  have HV := hid hzv
  have HZ := hid hzz
  have HB := hid hbl
  clear hzo hzv hzz hbl
  by_cases h1 : k < n
  ·obtain ⟨b, o, rfl, hb, hcell⟩ := HXC.out (by omega)
   have hbg : b < g := by have := HG.out; omega
   have hcx := (HB.out.cell (p := ⟨b, o + k, none⟩) hbg).trans (hcell k h1)
   clear hcell
   have hxk := HX.out k
   have hyk := HYR.out k
   have HA := hid (fun W (hW : Below g w W) => HAT.out k (by omega) W hW)
   have hdig : (xs.getD k 0 + 4294967296 - ys.getD k 0 - q) % 4294967296 + ys.getD k 0 + q = xs.getD k 0 + 4294967296 * (if xs.getD k 0 < ys.getD k 0 + q then 1 else 0) := by split <;> omega
   obtain ⟨hcz, hfz⟩ := HO.out.2.2.2 k h1
   have hst := sub_step' (by rw [HO.out.1]; exact h1) (HZ.out k (Nat.le_refl _)) HV.out hdig
   have HS := hid (bits_Sub32 (xs.getD k 0) (ys.getD k 0) q hxk hyk hq)
   have hdl : (xs.getD k 0 + 4294967296 - ys.getD k 0 - q) % 4294967296 < 4294967296 := Nat.mod_lt _ (by omega)
   have hql : (if xs.getD k 0 < ys.getD k 0 + q then 1 else 0) ≤ 1 := by split <;> omega
   generalize (xs.getD k 0 + 4294967296 - ys.getD k 0 - q) % 4294967296 = d at *
   generalize (if xs.getD k 0 < ys.getD k 0 + q then 1 else 0) = q' at *
   have HST := hid hst
   clear hdig hst
   generalize xs.getD k 0 = x at *
   generalize ys.getD k 0 = y at *
   have hcx2 : ∀ v, (wr.setCell ⟨g, k, none⟩ v).cell? ⟨b, o + k, none⟩ = some (.int .u32 (x : Int)) := fun v => by
    rw [World.cell?_setCell_other _ _ _ _ (by intro e; have := congrArg Addr.block e; simp at this; omega)]
    exact hcx
   go_upto_region 6 with fail
   go_region_held3 (fun w' => w'.cell? ⟨b, o + k, none⟩ = some (.int .u32 (x : Int)))
    (first | exact hcx | exact hcx2 _ | go_keep)
    (first
     | (go_at_call 240; go_must (((with_reducible refine (HA.out _ (by have h := HB.out; repeat' (first | (with_reducible exact Below.refl _ _) | (with_reducible assumption) | (with_reducible refine below_drewN ?_) | (with_reducible refine Below.alloc ?_ ?_ _) | (with_reducible refine Below.drew ?_) | (with_reducible refine Below.setCell ?_ ?_ _) | (with_reducible refine Below.trans ?_ (Below.mono (by with_reducible assumption) ?_)) | go_size))).mono ?_); rintro e w5 ⟨rfl, rfl⟩)))
     | (go_at_call 242; go_must (((with_reducible refine (HS.out _).mono ?_); rintro e w5 ⟨rfl, rfl⟩))))
   all_goals
    have HO2 := hid (HO.out.set h1 hdl)
    clear hcx hcz hfz hcx2
    go_wp2
    go_roundw
    case rel => exact ⟨k + 1, q', by omega, by go_num, rfl, hql, zs.set k d, HO2.out, HST.out, fun p hp => by rw [getD_set_other (by omega)]; exact HZ.out p (by omega), by have h := HB.out; repeat' (first | (with_reducible exact Below.refl _ _) | (with_reducible assumption) | (with_reducible refine below_drewN ?_) | (with_reducible refine Below.alloc ?_ ?_ _) | (with_reducible refine Below.drew ?_) | (with_reducible refine Below.setCell ?_ ?_ _) | (with_reducible refine Below.trans ?_ (Below.mono (by with_reducible assumption) ?_)) | go_size)⟩
    case measure => simp [intOf]; omega
  ·have hfin : val zs = val xs - val ys := by
    have h1' := HV.out
    rw [vt_all xs k (by have := HN.out; omega), vt_all ys k (by have := HYL.out; omega)] at h1'
    exact sub_done (by rw [HO.out.1]; omega) HO.out.2.1 h1' HLE.out hq
   have HF := hid hfin
   have hgl := HG.out
   clear hfin
   go_wp2_with fail
   refine (frac_trimmed _ _ _ (HO.out.rd (Nat.le_refl _) (by unfold maxLen; omega))).mono ?_
   rintro e w' ⟨a2, c2, rfl, hv2, ho2, k2, rfl⟩
   rw [HF.out] at hv2 ho2
   rw [HF.out]
   have HV2 := hid (hv2 _ (HO.out.rd (Nat.le_refl _) (by unfold maxLen; omega)))
   have HO2 := hid ho2
   clear hv2 ho2
   go_wp2
   go_ret
   exact ⟨_, _, rfl, HV2.out, fun R hR => HO2.out R (Off.of_lt (by omega)), by rw [hgl]; exact below_drewN HB.out⟩
end Go.Proofs.YthblaeleogdfpaaGreatDoor.Fr

namespace Go.Proofs.YthblaeleogdfpaaGreatDoor.Fr
open Go.RowKit
set_option maxRecDepth 100000 in
set_option maxHeartbeats 2000000 in
theorem frac_plusA (u v : Value) (xs ys : List Nat) (w : World) (hx : Rd32 w u xs) (hy : Rd32 w v ys) (hlx : xs.length ≤ 1073741824) (hly : ys.length ≤ 1073741824) (h : xs.length < ys.length) :
  Calls Tryz.prog 181 #[u, v] w (GivesD w (val xs + val ys)) := by
 have HAX := hid (fun k (hk : k ≤ 1073741824) W (hW : Below w.heap.size w W) => frac_at u xs k W (hx.kept hW) (by omega))
 have HAY := hid (fun k (hk : k ≤ 1073741824) W (hW : Below w.heap.size w W) => frac_at v ys k W (hy.kept hW) (by omega))
 obtain ⟨a, c, rfl, hc, hm, hxr, hxc⟩ := hx
 obtain ⟨a', c', rfl, hc', hm', hyr, hyc⟩ := hy
 unfold maxLen at hm hm'
 obtain ⟨i0, hi, hz0, hz1, hz2⟩ := info_parts info_u32
 obtain ⟨n, hn⟩ : ∃ n, n = xs.length := ⟨_, rfl⟩
 obtain ⟨n', hn'⟩ : ∃ n, n = ys.length := ⟨_, rfl⟩
 rw [← hn] at hc hlx HAX h ⊢
 rw [← hn'] at hc' hly HAY h ⊢
 have HN := hid hn
 have HN' := hid hn'
 have HX := hid hxr
 have HY := hid hyr
 clear hn hn' hxr hyr hxc hyc
 go_enter Tryz.func181, Tryz.ntmps181
 go_wp2_with (at_make; refine wpList_make_own _ rfl _ _ 210 rfl w.heap.size 157 i0 (.int .u32 0) 1 Tryz.underlying210 hi hz0 hz1 .i64 .i64 _ (n' + 1) rfl rfl (by first | rfl | omega) (by rw [hz2]; omega) (by unfold maxLen; omega) (Nat.le_refl _) ?_; intro w1 hown1 hgrow1)
 have hb1 : Below w.heap.size w w1 := (Below.refl _ _).grown hgrow1 (Nat.le_refl _) (fun k hk => by cases hk)
 have HB1 := hid hb1
 clear hb1 hgrow1
 go_wp2_with fail
 go_loopw [5, 6, 21] (fun o cv i wr => ∃ k c : Nat, k ≤ n' ∧ i = .int .i64 k ∧ cv = .int .u32 (c : Int) ∧ c ≤ 1 ∧ AddRel w xs ys o cv i wr k c) (fun _ _ i _ => n' - (intOf i).toNat)
 case atStart => exact ⟨0, 0, by omega, rfl, rfl, by omega, [], rfl, Digs.nil, rfl, hown1, HB1.out⟩
 case round =>
  clear hown1 HB1
  obtain ⟨k, cy, hk, rfl, rfl, hcy, zs, hzl, hzd, hv, hown, hbl⟩ := hrel
  have HV := hid hv
  have HL := hid hzl
  have HD := hid hzd
  have HB := hid hbl
  have hbs := hbl.size
  clear hv hzl hzd hbl
  by_cases h1 : k < n'
  ·have hxk := HX.out k
   have hyk := HY.out k
   have HA1 := hid (fun W (hW : Below w.heap.size w W) => HAX.out k (by omega) W hW)
   have HA2 := hid (fun W (hW : Below w.heap.size w W) => HAY.out k (by omega) W hW)
   have HST := hid (add_step (xs := xs) (ys := ys) HL.out HV.out)
   have HS := hid (bits_Add32 (xs.getD k 0) (ys.getD k 0) cy hxk hyk hcy)
   have e1 : cy + xs.getD k 0 + ys.getD k 0 = xs.getD k 0 + ys.getD k 0 + cy := by omega
   rw [e1] at HST
   have hd1 : (xs.getD k 0 + ys.getD k 0 + cy) % 4294967296 < 4294967296 := Nat.mod_lt _ (by omega)
   have hd2 : (xs.getD k 0 + ys.getD k 0 + cy) / 4294967296 ≤ 1 := by omega
   generalize (xs.getD k 0 + ys.getD k 0 + cy) % 4294967296 = d at *
   generalize (xs.getD k 0 + ys.getD k 0 + cy) / 4294967296 = q at *
   clear e1
   generalize xs.getD k 0 = x at *
   generalize ys.getD k 0 = y at *
   have HOWN := hid hown
   clear hown
   go_wp2_with fail
   with_reducible refine (HA1.out _ HB.out).mono ?_
   rintro e w2 ⟨rfl, rfl⟩
   go_wp2_with fail
   with_reducible refine (HA2.out _ HB.out).mono ?_
   rintro e w2 ⟨rfl, rfl⟩
   go_wp2_with fail
   with_reducible refine (HS.out _).mono ?_
   rintro e w2 ⟨rfl, rfl⟩
   have hown := HOWN.out
   go_wp2_with (at_builtin; refine wpList_append_own _ rfl _ _ 210 rfl (w.heap.size) 157 i0 (.int .u32 0) 1 4 Tryz.underlying210 hi hz0 hz1 hz2 rfl (by decide) _ _ _ rfl (hown.alloc _) ⟨_, 0, none⟩ 1 1 [(.int .u32 (d : Int))] rfl rfl (cell_one_new _ _ _) (by intro u hu; simp at hu; subst hu; rfl) (by unfold maxLen; omega) (by omega) (by simp; omega) ?_)
   intro v' w1 hown' hgrow _
   have hbl' := hid (push_below HB.out (by omega) hown hgrow)
   clear hown hgrow
   rw [map_snoc] at hown'
   go_wp2
   go_roundw
   case rel => exact ⟨k + 1, q, by omega, by go_num, rfl, hd2, zs ++ [d], by simp [HL.out], HD.out.append (Digs.cons hd1 Digs.nil), HST.out, hown', hbl'.out⟩
   case measure => simp [intOf]; omega
  ·go_wp2_with (at_builtin; refine wpList_append_own _ rfl _ _ 210 rfl (w.heap.size) 157 i0 (.int .u32 0) 1 4 Tryz.underlying210 hi hz0 hz1 hz2 rfl (by decide) _ _ _ rfl (hown.alloc _) ⟨_, 0, none⟩ 1 1 [(.int .u32 (cy : Int))] rfl rfl (cell_one_new _ _ _) (by intro u hu; simp at hu; subst hu; rfl) (by unfold maxLen; omega) (by omega) (by simp; omega) ?_)
   intro v' w1 hown' hgrow _
   have hbl' := hid (push_below HB.out (by omega) hown hgrow)
   clear hown hgrow
   rw [map_snoc] at hown'
   have hfin : val (zs ++ [cy]) = val xs + val ys := by rw [val_snoc, HL.out, HV.out, vt_all xs k (by have := HN.out; omega), vt_all ys k (by have := HN'.out; omega)]
   have HF := hid hfin
   obtain ⟨hr1, hr2, _, ra, rc, rfl⟩ := rd_of_owns hown' (HD.out.append (Digs.cons (by omega) Digs.nil))
   have HR1 := hid hr1
   have HR2 := hid hr2
   clear hr1 hr2 hown' hfin
   go_wp2_with fail
   refine (frac_trimmed _ _ _ HR1.out).mono ?_
   rintro e w' ⟨a2, c2, rfl, hv2, ho2, k2, rfl⟩
   rw [HF.out] at hv2 ho2
   rw [HF.out]
   have HV2 := hid (hv2 _ HR1.out)
   have HO2 := hid ho2
   clear hv2 ho2
   go_wp2
   go_ret
   exact ⟨_, _, rfl, HV2.out, fun R hR => HO2.out R (HR2.out R hR), below_drewN hbl'.out⟩
set_option maxRecDepth 100000 in
set_option maxHeartbeats 2000000 in
theorem frac_plusB (u v : Value) (xs ys : List Nat) (w : World) (hx : Rd32 w u xs) (hy : Rd32 w v ys) (hlx : xs.length ≤ 1073741824) (hly : ys.length ≤ 1073741824) (h : ¬ xs.length < ys.length) :
  Calls Tryz.prog 181 #[u, v] w (GivesD w (val xs + val ys)) := by
 have HAX := hid (fun k (hk : k ≤ 1073741824) W (hW : Below w.heap.size w W) => frac_at u xs k W (hx.kept hW) (by omega))
 have HAY := hid (fun k (hk : k ≤ 1073741824) W (hW : Below w.heap.size w W) => frac_at v ys k W (hy.kept hW) (by omega))
 obtain ⟨a, c, rfl, hc, hm, hxr, hxc⟩ := hx
 obtain ⟨a', c', rfl, hc', hm', hyr, hyc⟩ := hy
 unfold maxLen at hm hm'
 obtain ⟨i0, hi, hz0, hz1, hz2⟩ := info_parts info_u32
 obtain ⟨n, hn⟩ : ∃ n, n = xs.length := ⟨_, rfl⟩
 obtain ⟨n', hn'⟩ : ∃ n, n = ys.length := ⟨_, rfl⟩
 rw [← hn] at hc hlx HAX h ⊢
 rw [← hn'] at hc' hly HAY h ⊢
 have HN := hid hn
 have HN' := hid hn'
 have HX := hid hxr
 have HY := hid hyr
 clear hn hn' hxr hyr hxc hyc
 go_enter Tryz.func181, Tryz.ntmps181
 go_wp2_with (at_make; refine wpList_make_own _ rfl _ _ 210 rfl w.heap.size 157 i0 (.int .u32 0) 1 Tryz.underlying210 hi hz0 hz1 .i64 .i64 _ (n + 1) rfl rfl (by first | rfl | omega) (by rw [hz2]; omega) (by unfold maxLen; omega) (Nat.le_refl _) ?_; intro w1 hown1 hgrow1)
 have hb1 : Below w.heap.size w w1 := (Below.refl _ _).grown hgrow1 (Nat.le_refl _) (fun k hk => by cases hk)
 have HB1 := hid hb1
 clear hb1 hgrow1
 go_wp2_with fail
 go_loopw [5, 6, 21] (fun o cv i wr => ∃ k c : Nat, k ≤ n ∧ i = .int .i64 k ∧ cv = .int .u32 (c : Int) ∧ c ≤ 1 ∧ AddRel w xs ys o cv i wr k c) (fun _ _ i _ => n - (intOf i).toNat)
 case atStart => exact ⟨0, 0, by omega, rfl, rfl, by omega, [], rfl, Digs.nil, rfl, hown1, HB1.out⟩
 case round =>
  clear hown1 HB1
  obtain ⟨k, cy, hk, rfl, rfl, hcy, zs, hzl, hzd, hv, hown, hbl⟩ := hrel
  have HV := hid hv
  have HL := hid hzl
  have HD := hid hzd
  have HB := hid hbl
  have hbs := hbl.size
  clear hv hzl hzd hbl
  by_cases h1 : k < n
  ·have hxk := HX.out k
   have hyk := HY.out k
   have HA1 := hid (fun W (hW : Below w.heap.size w W) => HAX.out k (by omega) W hW)
   have HA2 := hid (fun W (hW : Below w.heap.size w W) => HAY.out k (by omega) W hW)
   have HST := hid (add_step (xs := xs) (ys := ys) HL.out HV.out)
   have HS := hid (bits_Add32 (xs.getD k 0) (ys.getD k 0) cy hxk hyk hcy)
   have e1 : cy + xs.getD k 0 + ys.getD k 0 = xs.getD k 0 + ys.getD k 0 + cy := by omega
   rw [e1] at HST
   have hd1 : (xs.getD k 0 + ys.getD k 0 + cy) % 4294967296 < 4294967296 := Nat.mod_lt _ (by omega)
   have hd2 : (xs.getD k 0 + ys.getD k 0 + cy) / 4294967296 ≤ 1 := by omega
   generalize (xs.getD k 0 + ys.getD k 0 + cy) % 4294967296 = d at *
   generalize (xs.getD k 0 + ys.getD k 0 + cy) / 4294967296 = q at *
   clear e1
   generalize xs.getD k 0 = x at *
   generalize ys.getD k 0 = y at *
   have HOWN := hid hown
   clear hown
   go_wp2_with fail
   with_reducible refine (HA1.out _ HB.out).mono ?_
   rintro e w2 ⟨rfl, rfl⟩
   go_wp2_with fail
   with_reducible refine (HA2.out _ HB.out).mono ?_
   rintro e w2 ⟨rfl, rfl⟩
   go_wp2_with fail
   with_reducible refine (HS.out _).mono ?_
   rintro e w2 ⟨rfl, rfl⟩
   have hown := HOWN.out
   go_wp2_with (at_builtin; refine wpList_append_own _ rfl _ _ 210 rfl (w.heap.size) 157 i0 (.int .u32 0) 1 4 Tryz.underlying210 hi hz0 hz1 hz2 rfl (by decide) _ _ _ rfl (hown.alloc _) ⟨_, 0, none⟩ 1 1 [(.int .u32 (d : Int))] rfl rfl (cell_one_new _ _ _) (by intro u hu; simp at hu; subst hu; rfl) (by unfold maxLen; omega) (by omega) (by simp; omega) ?_)
   intro v' w1 hown' hgrow _
   have hbl' := hid (push_below HB.out (by omega) hown hgrow)
   clear hown hgrow
   rw [map_snoc] at hown'
   go_wp2
   go_roundw
   case rel => exact ⟨k + 1, q, by omega, by go_num, rfl, hd2, zs ++ [d], by simp [HL.out], HD.out.append (Digs.cons hd1 Digs.nil), HST.out, hown', hbl'.out⟩
   case measure => simp [intOf]; omega
  ·go_wp2_with (at_builtin; refine wpList_append_own _ rfl _ _ 210 rfl (w.heap.size) 157 i0 (.int .u32 0) 1 4 Tryz.underlying210 hi hz0 hz1 hz2 rfl (by decide) _ _ _ rfl (hown.alloc _) ⟨_, 0, none⟩ 1 1 [(.int .u32 (cy : Int))] rfl rfl (cell_one_new _ _ _) (by intro u hu; simp at hu; subst hu; rfl) (by unfold maxLen; omega) (by omega) (by simp; omega) ?_)
   intro v' w1 hown' hgrow _
   have hbl' := hid (push_below HB.out (by omega) hown hgrow)
   clear hown hgrow
   rw [map_snoc] at hown'
   have hfin : val (zs ++ [cy]) = val xs + val ys := by rw [val_snoc, HL.out, HV.out, vt_all xs k (by have := HN.out; omega), vt_all ys k (by have := HN'.out; omega)]
   have HF := hid hfin
   obtain ⟨hr1, hr2, _, ra, rc, rfl⟩ := rd_of_owns hown' (HD.out.append (Digs.cons (by omega) Digs.nil))
   have HR1 := hid hr1
   have HR2 := hid hr2
   clear hr1 hr2 hown' hfin
   go_wp2_with fail
   refine (frac_trimmed _ _ _ HR1.out).mono ?_
   rintro e w' ⟨a2, c2, rfl, hv2, ho2, k2, rfl⟩
   rw [HF.out] at hv2 ho2
   rw [HF.out]
   have HV2 := hid (hv2 _ HR1.out)
   have HO2 := hid ho2
   clear hv2 ho2
   go_wp2
   go_ret
   exact ⟨_, _, rfl, HV2.out, fun R hR => HO2.out R (HR2.out R hR), below_drewN hbl'.out⟩
theorem frac_plus (u v : Value) (xs ys : List Nat) (w : World) (hx : Rd32 w u xs) (hy : Rd32 w v ys) (hlx : xs.length ≤ 1073741824) (hly : ys.length ≤ 1073741824) :
  Calls Tryz.prog 181 #[u, v] w (GivesD w (val xs + val ys)) := by
 by_cases h : xs.length < ys.length
 ·exact frac_plusA u v xs ys w hx hy hlx hly h
 ·exact frac_plusB u v xs ys w hx hy hlx hly h
end Go.Proofs.YthblaeleogdfpaaGreatDoor.Fr
