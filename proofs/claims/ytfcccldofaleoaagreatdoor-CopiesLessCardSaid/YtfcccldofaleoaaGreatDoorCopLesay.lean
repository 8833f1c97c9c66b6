/- Contract of fraction's product of words. Contracts of bits.Add32, bits.Sub32, words.at. Contracts of the reference's sum and difference of words. -/
import Derived.Test.YtfcccldofaleoaaGreatDoorCopLesax
import Derived.OpenShut
import Derived.IntWalk
import Derived.Test.YtfcccldofaleoaaGreatDoorCopLesaw
import Derived.Test.YtfcccldofaleoaaGreatDoorCopLesav
namespace Go.Proofs.YtfcccldofaleoaaGreatDoor.Fr
open Go.RowKit

set_option maxRecDepth 100000 in
set_option maxHeartbeats 2000000 in
theorem frac_times (u v : Value) (xs ys : List Nat) (w : World) (hx : Rd32 w u xs) (hy : Rd32 w v ys) (hlx : xs.length ≤ 1073741824) (hly : ys.length ≤ 1073741824) :
    Calls Tryz.prog 168 #[u, v] w (GivesD w (val xs * val ys)) := by
  obtain ⟨a, c, rfl, hc, hm, hxr, hxc⟩ := hx
  obtain ⟨a', c', rfl, hc', hm', hyr, hyc⟩ := hy
  unfold maxLen at hm hm'
  obtain ⟨i0, hi, hz0, hz1, hz2⟩ := info_parts info_u32
  obtain ⟨n, hn⟩ : ∃ n, n = xs.length := ⟨_, rfl⟩
  obtain ⟨n', hn'⟩ : ∃ n, n = ys.length := ⟨_, rfl⟩
  rw [← hn] at hc hxc hlx ⊢
  rw [← hn'] at hc' hyc hly ⊢
  have HN := hid hn
  have HN' := hid hn'
  have HX := hid hxr
  have HY := hid hyr
  have HXC := hid hxc
  have HYC := hid hyc
  clear hn hn' hxr hyr hxc hyc
  go_enter Tryz.func168, Tryz.ntmps168
  go_wp2_with (at_make; refine wpList_make_full _ rfl _ _ 176 rfl w.heap.size 133 i0 (.int .u32 0) 1 Tryz.underlying176 hi hz0 hz1 _ _ _ _ (n + n') rfl rfl (by omega) (by omega) (by rw [hz2]; omega) (by unfold maxLen; omega) (Nat.le_refl _) ?_)
  intro w1 hown hgrow
  have hO := Own32.of_made hown
  have hb1 : Below w.heap.size w w1 := (Below.refl _ _).grown hgrow (Nat.le_refl _) (fun k h => by cases h)
  have HO := hid hO
  have HB1 := hid hb1
  clear hown hgrow hO hb1
  generalize hg : w.heap.size = g at *
  have HG := hid hg
  clear hg
  go_wp2
  go_loopw [19] (fun i wr => ∃ k : Nat, k ≤ n ∧ i = .int .i64 k ∧ ∃ zs, Own32 wr g (n + n') zs ∧ val zs = vt xs k * val ys ∧ (∀ p, k + n' ≤ p → zs.getD p 0 = 0) ∧ Below g w wr) (fun i _ => n - (intOf i).toNat)
  case atStart => exact ⟨0, by omega, rfl, _, HO.out, by rw [val_replicate]; simp [vt, val], fun p _ => by simp only [List.getD, List.getElem?_replicate]; split <;> rfl, HB1.out⟩
  case round =>
    clear HB1 HO
    obtain ⟨k, hk, rfl, zs, hzo, hzv, hzz, hbl⟩ := hrel
    have HO := hid hzo
    have HV := hid hzv
    have HZ := hid hzz
    have HB := hid hbl
    clear hzo hzv hzz hbl
    by_cases h1 : k < n
    · obtain ⟨b, o, rfl, hb, hcell⟩ := HXC.out (by omega)
      have hbg : b < g := by have := HG.out; omega
      have HCX := hid (hcell k h1)
      have hxk := HX.out k
      have HXK : Hid (xs.getD k 0 = xs.getD k 0) := hid rfl
      clear hcell
      obtain ⟨x, hxe⟩ : ∃ x, x = xs.getD k 0 := ⟨_, rfl⟩
      rw [← hxe] at HCX hxk
      have HXE := hid hxe
      clear hxe HXK
      obtain ⟨wo, rfl⟩ : ∃ wo : World, wo = wr := ⟨_, rfl⟩
      have hcx0 := (HB.out.cell (p := ⟨b, o + k, none⟩) hbg).trans HCX.out
      go_wp2
      clear hcx0
      go_loopw [8, 26] (fun cv jv wr => ∃ j cy : Nat, j ≤ n' ∧ jv = .int .i64 j ∧ cv = .int .u64 cy ∧ cy < 4294967296 ∧ ∃ zs, Own32 wr g (n + n') zs ∧ val zs + 4294967296 ^ (k + j) * cy = vt xs k * val ys + x * (4294967296 ^ k * vt ys j) ∧ (∀ p, k + n' ≤ p → zs.getD p 0 = 0) ∧ Below g w wr) (fun _ jv _ => n' - (intOf jv).toNat)
      case atStart => exact ⟨0, 0, by omega, rfl, rfl, by omega, zs, HO.out, by rw [HV.out, vt_zero]; simp, HZ.out, HB.out⟩
      case round =>
        clear HO HV HZ HB
        obtain ⟨j, cy, hj, rfl, rfl, hcy, zs, hzo, hzv, hzz, hbl⟩ := hrel
        have HO := hid hzo
        have HV := hid hzv
        have HZ := hid hzz
        have HB := hid hbl
        clear hzo hzv hzz hbl
        have hcx := (HB.out.cell (p := ⟨b, o + k, none⟩) hbg).trans HCX.out
        by_cases h2 : j < n'
        · obtain ⟨b', o', rfl, hb', hcell⟩ := HYC.out (by omega)
          have hcy' := (HB.out.cell (p := ⟨b', o' + j, none⟩) (by have := HG.out; omega)).trans (hcell j h2)
          clear hcell
          have hyj := HY.out j
          obtain ⟨hcz, hfz⟩ := HO.out.2.2.2 (k + j) (by omega)
          have hzj := HO.out.2.1 (k + j)
          have HST := hid (fun t ht => mul_step (t := t) (by rw [HO.out.1]; omega) HV.out ht)
          have hmb := mul_bound hxk hyj hcy hzj
          obtain ⟨m, hme⟩ : ∃ m, m = x * ys.getD j 0 := ⟨_, rfl⟩
          rw [← hme] at HST hmb
          have hme' : ((x : Nat) : Int) * ((ys.getD j 0 : Nat) : Int) = (m : Int) := by rw [hme]; simp
          generalize ys.getD j 0 = y at *
          generalize zs.getD (k + j) 0 = z at *
          clear hme
          have hm1 := hmb.1
          have hm2 := hmb.2
          clear hmb
          go_wp2
          have hst := HST.out _ rfl
          have HST2 := hid hst
          clear hst HST hcx hcy'
          have hset := HO.out.set (show k + j < n + n' by omega) (show (cy + (m + z)) % 4294967296 < 4294967296 by omega)
          have HO2 := hid hset
          clear hset
          go_roundw
          case rel => exact ⟨j + 1, (cy + (m + z)) / 4294967296, by omega, by go_num, by go_num, by omega, zs.set (k + j) ((cy + (m + z)) % 4294967296), HO2.out, HST2.out, fun p hp => by rw [getD_set_other (by omega)]; exact HZ.out p hp, HB.out.setCell (Nat.le_refl _) _⟩
          case measure => simp [intOf]; omega
        · obtain rfl : n' = j := by omega
          obtain ⟨hcz, hfz⟩ := HO.out.2.2.2 (k + n') (by omega)
          have hv2 := HV.out
          rw [HXE.out] at hv2
          have hrow := mul_row (by rw [HO.out.1]; omega) (HZ.out _ (Nat.le_refl _)) (by have := HN'.out; omega) hv2
          have HR := hid hrow
          have HO2 := hid (HO.out.set (show k + n' < n + n' by omega) hcy)
          rw [HZ.out _ (Nat.le_refl _)] at hcz
          clear hrow hv2 hcx
          go_wp2
          go_roundw
          case rel => exact ⟨k + 1, by omega, by go_num, zs.set (k + n') cy, HO2.out, HR.out, fun p hp => by rw [getD_set_other (by omega)]; exact HZ.out p (by omega), HB.out.setCell (Nat.le_refl _) _⟩
          case measure => simp [intOf]; omega
    · have hV : val zs = val xs * val ys := by rw [HV.out, vt_all xs k (by have := HN.out; omega)]
      have HF := hid hV
      have hgl := HG.out
      clear hV
      go_wp2_with fail
      refine (frac_trimmed _ _ _ (HO.out.rd (Nat.le_refl _) (by unfold maxLen; omega))).mono ?_
      rintro e w' ⟨a2, c2, rfl, hv2, ho2, k2, rfl⟩
      rw [HF.out] at hv2 ho2
      rw [HF.out]
      have HV2 := hid (hv2 _ (HO.out.rd (Nat.le_refl _) (by unfold maxLen; omega)))
      have HO2 := hid ho2
      clear hv2 ho2
      go_wp2
      go_ret
      exact ⟨_, _, rfl, HV2.out, fun R hR => HO2.out R (Off.of_lt (by omega)), by rw [hgl]; exact below_drewN HB.out⟩

end Go.Proofs.YtfcccldofaleoaaGreatDoor.Fr

namespace Go.Proofs.YtfcccldofaleoaaGreatDoor.Fr
open Go.RowKit

theorem wrap_u32 (A : BitVec 32) : IntKind.u32.wrap (A.toNat : Int) = (A.toNat : Int) := by
  have := A.isLt
  simp only [IntKind.wrap, IntKind.bits, IntKind.signed]
  simp
  omega
theorem ofInt_toNat (A : BitVec 32) : BitVec.ofInt 32 (A.toNat : Int) = A := by
  simp
theorem bits_and32 (A B : BitVec 32) : bits .and .u32 (A.toNat : Int) (B.toNat : Int) = ((A &&& B).toNat : Int) := by
  unfold bits
  show IntKind.u32.wrap (((BitVec.ofInt 32 (A.toNat : Int)) &&& (BitVec.ofInt 32 (B.toNat : Int)) : BitVec 32).toNat : Int) = _
  rw [ofInt_toNat, ofInt_toNat, wrap_u32]
theorem bits_or32 (A B : BitVec 32) : bits .or .u32 (A.toNat : Int) (B.toNat : Int) = ((A ||| B).toNat : Int) := by
  unfold bits
  show IntKind.u32.wrap (((BitVec.ofInt 32 (A.toNat : Int)) ||| (BitVec.ofInt 32 (B.toNat : Int)) : BitVec 32).toNat : Int) = _
  rw [ofInt_toNat, ofInt_toNat, wrap_u32]
theorem bits_xor32 (A B : BitVec 32) : bits .xor .u32 (A.toNat : Int) (B.toNat : Int) = ((A ^^^ B).toNat : Int) := by
  unfold bits
  show IntKind.u32.wrap (((BitVec.ofInt 32 (A.toNat : Int)) ^^^ (BitVec.ofInt 32 (B.toNat : Int)) : BitVec 32).toNat : Int) = _
  rw [ofInt_toNat, ofInt_toNat, wrap_u32]
theorem max_u32 : IntKind.u32.max = ((BitVec.allOnes 32).toNat : Int) := by decide
theorem top32 (A : BitVec 32) : ((A.toNat : Int) / 2147483648) = if A.msb then 1 else 0 := by
  have h := A.isLt
  rw [BitVec.msb_eq_decide]
  by_cases h1 : 2 ^ (32 - 1) ≤ A.toNat
  · simp [h1]
    omega
  · simp [h1]
    omega
theorem borrow_bits (x y d : Nat) (hx : x < 4294967296) (hy : y < 4294967296) (hd : d < 4294967296) :
    bits .or .u32 (bits .and .u32 (bits .xor .u32 IntKind.u32.max (x : Int)) (y : Int)) (bits .and .u32 (bits .xor .u32 IntKind.u32.max (bits .xor .u32 (x : Int) (y : Int))) (d : Int)) / 2147483648
      = if (x < 2147483648 ∧ 2147483648 ≤ y) ∨ ((x < 2147483648 ↔ y < 2147483648) ∧ 2147483648 ≤ d) then 1 else 0 := by
  obtain ⟨X, rfl⟩ : ∃ X : BitVec 32, X.toNat = x := ⟨BitVec.ofNat 32 x, by simp; omega⟩
  obtain ⟨Y, rfl⟩ : ∃ X : BitVec 32, X.toNat = y := ⟨BitVec.ofNat 32 y, by simp; omega⟩
  obtain ⟨D, rfl⟩ : ∃ X : BitVec 32, X.toNat = d := ⟨BitVec.ofNat 32 d, by simp; omega⟩
  rw [max_u32, bits_xor32, bits_and32, bits_xor32, bits_xor32, bits_and32, bits_or32, top32]
  have hX : X.msb = decide (2147483648 ≤ X.toNat) := BitVec.msb_eq_decide X
  have hY : Y.msb = decide (2147483648 ≤ Y.toNat) := BitVec.msb_eq_decide Y
  have hD : D.msb = decide (2147483648 ≤ D.toNat) := BitVec.msb_eq_decide D
  have h1 : (BitVec.allOnes 32).msb = true := by decide
  simp only [BitVec.msb_or, BitVec.msb_and, BitVec.msb_xor, h1, hX, hY, hD]
  by_cases a : 2147483648 ≤ X.toNat <;> by_cases b : 2147483648 ≤ Y.toNat <;> by_cases c : 2147483648 ≤ D.toNat <;> simp [a, b, c] <;> omega

set_option maxHeartbeats 400000 in
theorem bits_Add32 (x y c : Nat) (hx : x < 4294967296) (hy : y < 4294967296) (hc : c ≤ 1) (w : World) :
    Calls Tryz.prog 184 #[.int .u32 (x : Int), .int .u32 (y : Int), .int .u32 (c : Int)] w (fun e w' => e = .returned (.tuple #[.int .u32 (((x + y + c) % 4294967296 : Nat) : Int), .int .u32 (((x + y + c) / 4294967296 : Nat) : Int)]) ∧ w = w') := by
  obtain ⟨s, hs⟩ : ∃ s, s = (x + y + c) % 4294967296 := ⟨_, rfl⟩
  obtain ⟨k, hk⟩ : ∃ k, k = (x + y + c) / 4294967296 := ⟨_, rfl⟩
  have e1 : ((x : Int) + y + c) % 4294967296 = (s : Int) := by omega
  have e2 : ((x : Int) + y + c) / 4294967296 = (k : Int) := by omega
  rw [← hs, ← hk]
  have E1 := hid e1
  have E2 := hid e2
  clear hs hk e1 e2
  go_enter Tryz.func184, Tryz.ntmps184
  go_wp2
  rw [E1.out, E2.out]
  go_ret2
  exact ⟨rfl, rfl⟩

set_option maxHeartbeats 400000 in
theorem bits_Sub32 (x y b : Nat) (hx : x < 4294967296) (hy : y < 4294967296) (hb : b ≤ 1) (w : World) :
    Calls Tryz.prog 185 #[.int .u32 (x : Int), .int .u32 (y : Int), .int .u32 (b : Int)] w (fun e w' => e = .returned (.tuple #[.int .u32 (((x + 4294967296 - y - b) % 4294967296 : Nat) : Int), .int .u32 ((if x < y + b then 1 else 0 : Nat) : Int)]) ∧ w = w') := by
  obtain ⟨d, hd⟩ : ∃ d, d = (x + 4294967296 - y - b) % 4294967296 := ⟨_, rfl⟩
  obtain ⟨k, hk⟩ : ∃ k : Nat, k = if x < y + b then 1 else 0 := ⟨_, rfl⟩
  have e1 : ((x : Int) - y - b) % 4294967296 = (d : Int) := by omega
  have e2 := borrow_bits x y d hx hy (by omega)
  have e3 : (if (x < 2147483648 ∧ 2147483648 ≤ y) ∨ ((x < 2147483648 ↔ y < 2147483648) ∧ 2147483648 ≤ d) then 1 else 0 : Int) = (k : Int) := by
    subst hk
    by_cases h1 : x < 2147483648 <;> by_cases h2 : y < 2147483648 <;> by_cases h3 : 2147483648 ≤ d <;> by_cases h4 : x < y + b <;> simp [h1, h2, h3, h4] <;> omega
  rw [e3] at e2
  rw [← hd, ← hk]
  have E2 := hid e2
  clear hd hk e3 e2
  go_enter Tryz.func185, Tryz.ntmps185
  go_wp2
  rw [E2.out]
  go_ret2
  exact ⟨rfl, rfl⟩

/-- a digit, 0 behind the last one -/
theorem frac_at (u : Value) (xs : List Nat) (i : Nat) (w : World) (hx : Rd32 w u xs) (hi : i ≤ 1099511627776) :
    Calls Tryz.prog 182 #[u, .int .i64 (i : Int)] w (fun e w' => e = .returned (.int .u32 ((xs.getD i 0 : Nat) : Int)) ∧ w = w') := by
  obtain ⟨a, c, rfl, hc, hm, hxr, hxc⟩ := hx
  unfold maxLen at hm
  obtain ⟨n, hn⟩ : ∃ n, n = xs.length := ⟨_, rfl⟩
  rw [← hn] at hc hxc ⊢
  by_cases h : i < n
  · obtain ⟨b, o, rfl, hb, hcell⟩ := hxc (by omega)
    have hk := hcell i h
    have hxi := hxr i
    clear hcell hxc hxr
    generalize xs.getD i 0 = x at *
    have hd : decide ((i : Int) < (n : Int)) = true := decide_eq_true (by omega)
    clear hn
    go_enter Tryz.func182, Tryz.ntmps182
    go_wp2
    go_ret
    exact ⟨rfl, rfl⟩
  · have h0 : xs.getD i 0 = 0 := getD_beyond (by omega)
    rw [h0]
    have hd : decide ((i : Int) < (n : Int)) = false := decide_eq_false (by omega)
    clear hxc hxr h0 hn
    go_enter Tryz.func182, Tryz.ntmps182
    go_wp2
    go_ret
    exact ⟨rfl, rfl⟩

end Go.Proofs.YtfcccldofaleoaaGreatDoor.Fr

namespace Go.Proofs.YtfcccldofaleoaaGreatDoor.Fr
open Go.RowKit

/-- what holds ahead of round k of 'add' -/
def AddRel (w : World) (xs ys : List Nat) (o cv i : Value) (wr : World) (k c : Nat) : Prop :=
  ∃ zs : List Nat, zs.length = k ∧ Digs zs ∧ val zs + 4294967296 ^ k * c = vt xs k + vt ys k ∧ wr.ownsRow w.heap.size 133 1 o k (zs.map U32) ∧ Below w.heap.size w wr

set_option maxHeartbeats 1000000 in
theorem ref_add (u v : Value) (xs ys : List Nat) (w : World) (hx : Rd32 w u xs) (hy : Rd32 w v ys) (hlx : xs.length ≤ 1073741824) (hly : ys.length ≤ 1073741824) :
    Calls Tryz.prog 89 #[u, v] w (GivesL w (val xs + val ys)) := by
  obtain ⟨a, c, rfl, hc, hm, hxr, hxc⟩ := hx
  obtain ⟨a', c', rfl, hc', hm', hyr, hyc⟩ := hy
  unfold maxLen at hm hm'
  obtain ⟨i0, hi, hz0, hz1, hz2⟩ := info_parts info_u32
  obtain ⟨n, hn⟩ : ∃ n, n = xs.length := ⟨_, rfl⟩
  obtain ⟨n', hn'⟩ : ∃ n, n = ys.length := ⟨_, rfl⟩
  rw [← hn] at hc hxc hlx ⊢
  rw [← hn'] at hc' hyc hly ⊢
  have HN := hid hn
  have HN' := hid hn'
  have HX := hid hxr
  have HY := hid hyr
  have HXC := hid hxc
  have HYC := hid hyc
  clear hn hn' hxr hyr hxc hyc
  go_enter Tryz.func89, Tryz.ntmps89
  go_wp2
  go_loopw [5, 6, 7] (fun o cv i wr => ∃ k c : Nat, (k ≤ n ∨ k ≤ n') ∧ i = .int .i64 k ∧ cv = .int .u64 c ∧ c ≤ 1 ∧ AddRel w xs ys o cv i wr k c) (fun _ _ i _ => n + n' - (intOf i).toNat)
  case atStart => exact ⟨0, 0, by omega, rfl, rfl, by omega, [], rfl, Digs.nil, rfl, World.ownsRow_nil _ _ _ _, Below.refl _ _⟩
  case round =>
    obtain ⟨k, cy, hk, rfl, rfl, hcy, zs, hzl, hzd, hv, hown, hbl⟩ := hrel
    have HV := hid hv
    have HL := hid hzl
    have HD := hid hzd
    have hxk := HX.out k
    have hyk := HY.out k
    have HB := hid hbl
    have hbs := hbl.size
    clear hv hzl hzd hbl
    by_cases h1 : k < n
    · obtain ⟨b, o, rfl, hb, hcell⟩ := HXC.out (by omega)
      have hcx := (HB.out.cell (p := ⟨b, o + k, none⟩) hb).trans (hcell k h1)
      clear hcell
      have hst := hid (add_step (xs := xs) (ys := ys) HL.out HV.out)
      by_cases h2 : k < n'
      · obtain ⟨b', o', rfl, hb', hcell⟩ := HYC.out (by omega)
        have hcy' := (HB.out.cell (p := ⟨b', o' + k, none⟩) hb').trans (hcell k h2)
        clear hcell
        generalize xs.getD k 0 = x at *
        generalize ys.getD k 0 = y at *
        go_wp2_with (at_builtin; refine wpList_append_own _ rfl _ _ 45 rfl (w.heap.size) 133 i0 (.int .u32 0) 1 4 Tryz.underlying45 hi hz0 hz1 hz2 rfl (by decide) _ _ _ rfl (hown.alloc _) ⟨_, 0, none⟩ 1 1 [(.int .u32 (((cy : Int) + x + y) % 4294967296))] rfl rfl (cell_one_new _ _ _) (by intro u hu; simp at hu; subst hu; rfl) (by unfold maxLen; omega) (by omega) (by simp; omega) ?_)
        intro v' w1 hown' hgrow _
        have hbl' := hid (push_below HB.out (by omega) hown hgrow)
        clear hown hgrow hcx hcy'
        rw [show ((cy : Int) + x + y) % 4294967296 = ((cy + x + y) % 4294967296 : Nat) from by omega, map_snoc] at hown'
        go_wp2
        go_roundw
        case rel => exact ⟨k + 1, (cy + x + y) / 4294967296, by omega, by go_num, by go_num, by omega, zs ++ [(cy + x + y) % 4294967296], by simp [HL.out], HD.out.append (Digs.cons (by omega) Digs.nil), hst.out, hown', hbl'.out⟩
        case measure => simp [intOf]; omega
      · have h0 : ys.getD k 0 = 0 := getD_beyond (by have := HN'.out; omega)
        have hst2 := hst.out
        rw [h0, Nat.add_zero] at hst2
        clear hst h0 hyk
        have hst := hid hst2
        clear hst2
        generalize xs.getD k 0 = x at *
        go_wp2_with (at_builtin; refine wpList_append_own _ rfl _ _ 45 rfl (w.heap.size) 133 i0 (.int .u32 0) 1 4 Tryz.underlying45 hi hz0 hz1 hz2 rfl (by decide) _ _ _ rfl (hown.alloc _) ⟨_, 0, none⟩ 1 1 [(.int .u32 (((cy : Int) + x) % 4294967296))] rfl rfl (cell_one_new _ _ _) (by intro u hu; simp at hu; subst hu; rfl) (by unfold maxLen; omega) (by omega) (by simp; omega) ?_)
        intro v' w1 hown' hgrow _
        have hbl' := hid (push_below HB.out (by omega) hown hgrow)
        clear hown hgrow hcx
        rw [show ((cy : Int) + x) % 4294967296 = ((cy + x) % 4294967296 : Nat) from by omega, map_snoc] at hown'
        go_wp2
        go_roundw
        case rel => exact ⟨k + 1, (cy + x) / 4294967296, by omega, by go_num, by go_num, by omega, zs ++ [(cy + x) % 4294967296], by simp [HL.out], HD.out.append (Digs.cons (by omega) Digs.nil), hst.out, hown', hbl'.out⟩
        case measure => simp [intOf]; omega
    · by_cases h2 : k < n'
      · obtain ⟨b, o, rfl, hb, hcell⟩ := HYC.out (by omega)
        have hcx := (HB.out.cell (p := ⟨b, o + k, none⟩) hb).trans (hcell k h2)
        clear hcell
        have h0 : xs.getD k 0 = 0 := getD_beyond (by have := HN.out; omega)
        have hst2 := add_step (xs := xs) (ys := ys) HL.out HV.out
        rw [h0, Nat.add_zero] at hst2
        clear h0 hxk
        have hst := hid hst2
        clear hst2
        generalize ys.getD k 0 = x at *
        go_wp2_with (at_builtin; refine wpList_append_own _ rfl _ _ 45 rfl (w.heap.size) 133 i0 (.int .u32 0) 1 4 Tryz.underlying45 hi hz0 hz1 hz2 rfl (by decide) _ _ _ rfl (hown.alloc _) ⟨_, 0, none⟩ 1 1 [(.int .u32 (((cy : Int) + x) % 4294967296))] rfl rfl (cell_one_new _ _ _) (by intro u hu; simp at hu; subst hu; rfl) (by unfold maxLen; omega) (by omega) (by simp; omega) ?_)
        intro v' w1 hown' hgrow _
        have hbl' := hid (push_below HB.out (by omega) hown hgrow)
        clear hown hgrow hcx
        rw [show ((cy : Int) + x) % 4294967296 = ((cy + x) % 4294967296 : Nat) from by omega, map_snoc] at hown'
        go_wp2
        go_roundw
        case rel => exact ⟨k + 1, (cy + x) / 4294967296, by omega, by go_num, by go_num, by omega, zs ++ [(cy + x) % 4294967296], by simp [HL.out], HD.out.append (Digs.cons (by omega) Digs.nil), hst.out, hown', hbl'.out⟩
        case measure => simp [intOf]; omega
      · go_wp2_with (at_builtin; refine wpList_append_own _ rfl _ _ 45 rfl (w.heap.size) 133 i0 (.int .u32 0) 1 4 Tryz.underlying45 hi hz0 hz1 hz2 rfl (by decide) _ _ _ rfl (hown.alloc _) ⟨_, 0, none⟩ 1 1 [(.int .u32 (cy : Int))] rfl rfl (cell_one_new _ _ _) (by intro u hu; simp at hu; subst hu; rfl) (by unfold maxLen; omega) (by omega) (by simp; omega) ?_)
        intro v' w1 hown' hgrow _
        have hbl' := hid (push_below HB.out (by omega) hown hgrow)
        clear hown hgrow
        rw [map_snoc] at hown'
        go_wp2
        go_ret
        refine givesL_of hown' (HD.out.append (Digs.cons (by omega) Digs.nil)) ?_ hbl'.out
        rw [val_snoc, HL.out, HV.out, vt_all xs k (by have := HN.out; omega), vt_all ys k (by have := HN'.out; omega)]

set_option maxHeartbeats 1000000 in
theorem ref_sub (u v : Value) (xs ys : List Nat) (w : World) (hx : Rd32 w u xs) (hy : Rd32 w v ys) (hlx : xs.length ≤ 1073741824) (hle : val ys ≤ val xs) (hll : ys.length ≤ xs.length) :
    Calls Tryz.prog 90 #[u, v] w (GivesD w (val xs - val ys)) := by
  obtain ⟨a, c, rfl, hc, hm, hxr, hxc⟩ := hx
  obtain ⟨a', c', rfl, hc', hm', hyr, hyc⟩ := hy
  unfold maxLen at hm hm'
  obtain ⟨i0, hi, hz0, hz1, hz2⟩ := info_parts info_u32
  obtain ⟨n, hn⟩ : ∃ n, n = xs.length := ⟨_, rfl⟩
  obtain ⟨n', hn'⟩ : ∃ n, n = ys.length := ⟨_, rfl⟩
  rw [← hn] at hc hxc hlx hll ⊢
  rw [← hn'] at hc' hyc hll ⊢
  have HN := hid hn
  have HN' := hid hn'
  have HX := hid hxr
  have HY := hid hyr
  have HXC := hid hxc
  have HYC := hid hyc
  have HLE := hid hle
  clear hn hn' hxr hyr hxc hyc hle
  go_enter Tryz.func90, Tryz.ntmps90
  go_wp2
  go_loopw [5, 6, 7] (fun o cv i wr => ∃ k q : Nat, k ≤ n ∧ i = .int .i64 k ∧ cv = .int .i64 (-(q : Int)) ∧ q ≤ 1 ∧ ∃ zs : List Nat, zs.length = k ∧ Digs zs ∧ val zs + vt ys k = vt xs k + 4294967296 ^ k * q ∧ wr.ownsRow w.heap.size 133 1 o k (zs.map U32) ∧ Below w.heap.size w wr) (fun _ _ i _ => n - (intOf i).toNat)
  case atStart => exact ⟨0, 0, by omega, rfl, rfl, by omega, [], rfl, Digs.nil, rfl, World.ownsRow_nil _ _ _ _, Below.refl _ _⟩
  case round =>
    obtain ⟨k, q, hk, rfl, rfl, hq, zs, hzl, hzd, hv, hown, hbl⟩ := hrel
    have HV := hid hv
    have HL := hid hzl
    have HD := hid hzd
    have hxk := HX.out k
    have hyk := HY.out k
    have HB := hid hbl
    have hbs := hbl.size
    clear hv hzl hzd hbl
    by_cases h1 : k < n
    · obtain ⟨b, o, rfl, hb, hcell⟩ := HXC.out (by omega)
      have hcx := (HB.out.cell (p := ⟨b, o + k, none⟩) hb).trans (hcell k h1)
      clear hcell
      by_cases h2 : k < n'
      · obtain ⟨b', o', rfl, hb', hcell⟩ := HYC.out (by omega)
        have hcy' := (HB.out.cell (p := ⟨b', o' + k, none⟩) hb').trans (hcell k h2)
        clear hcell
        have hdig := sub_digit (xs.getD k 0) (ys.getD k 0) q hxk hyk hq
        obtain ⟨d, q', hd, hq', he, hd1, hd2⟩ := hdig
        have hst := hid (sub_step (xs := xs) (ys := ys) HL.out HV.out he)
        have HD1 := hid hd1
        have HD2 := hid hd2
        clear he hd1 hd2
        generalize xs.getD k 0 = x at *
        generalize ys.getD k 0 = y at *
        go_wp2_with (at_builtin; refine wpList_append_own _ rfl _ _ 45 rfl (w.heap.size) 133 i0 (.int .u32 0) 1 4 Tryz.underlying45 hi hz0 hz1 hz2 rfl (by decide) _ _ _ rfl (hown.alloc _) ⟨_, 0, none⟩ 1 1 [(.int .u32 ((-(q : Int) + x - y) % 4294967296))] rfl rfl (cell_one_new _ _ _) (by intro u hu; simp at hu; subst hu; rfl) (by unfold maxLen; omega) (by omega) (by simp; omega) ?_)
        intro v' w1 hown' hgrow _
        have hbl' := hid (push_below HB.out (by omega) hown hgrow)
        clear hown hgrow hcx
        rw [HD1.out, map_snoc] at hown'
        go_wp2
        rw [HD2.out]
        go_roundw
        case rel => exact ⟨k + 1, q', by omega, by go_num, rfl, by omega, zs ++ [d], by simp [HL.out], HD.out.append (Digs.cons (by omega) Digs.nil), hst.out, hown', hbl'.out⟩
        case measure => simp [intOf]; omega
      · have h0 : ys.getD k 0 = 0 := getD_beyond (by have := HN'.out; omega)
        obtain ⟨d, q', hd, hq', he, hd1, hd2⟩ := sub_digit (xs.getD k 0) 0 q hxk (by omega) hq
        have hst := hid (sub_step (xs := xs) (ys := ys) HL.out HV.out (d := d) (q' := q') (by rw [h0]; exact he))
        rw [show (-(q : Int) + (xs.getD k 0 : Nat) - (0 : Nat)) = -(q : Int) + (xs.getD k 0 : Nat) from by omega] at hd1 hd2
        have HD1 := hid hd1
        have HD2 := hid hd2
        clear he hd1 hd2 h0 hyk
        generalize xs.getD k 0 = x at *
        go_wp2_with (at_builtin; refine wpList_append_own _ rfl _ _ 45 rfl (w.heap.size) 133 i0 (.int .u32 0) 1 4 Tryz.underlying45 hi hz0 hz1 hz2 rfl (by decide) _ _ _ rfl (hown.alloc _) ⟨_, 0, none⟩ 1 1 [(.int .u32 ((-(q : Int) + x) % 4294967296))] rfl rfl (cell_one_new _ _ _) (by intro u hu; simp at hu; subst hu; rfl) (by unfold maxLen; omega) (by omega) (by simp; omega) ?_)
        intro v' w1 hown' hgrow _
        have hbl' := hid (push_below HB.out (by omega) hown hgrow)
        clear hown hgrow hcx
        rw [HD1.out, map_snoc] at hown'
        go_wp2
        rw [HD2.out]
        go_roundw
        case rel => exact ⟨k + 1, q', by omega, by go_num, rfl, by omega, zs ++ [d], by simp [HL.out], HD.out.append (Digs.cons (by omega) Digs.nil), hst.out, hown', hbl'.out⟩
        case measure => simp [intOf]; omega
    · have hfin : val zs = val xs - val ys := by
        have h1' := HV.out
        rw [vt_all xs k (by have := HN.out; omega), vt_all ys k (by have := HN'.out; omega)] at h1'
        exact sub_done HL.out HD.out h1' HLE.out hq
      have HF := hid hfin
      clear hfin
      obtain ⟨hr1, hr2, _, ra, rc, rfl⟩ := rd_of_owns hown HD.out
      have HR1 := hid hr1
      have HR2 := hid hr2
      clear hr1 hr2 hown
      go_wp2_with fail
      refine (ref_trim _ _ _ HR1.out).mono ?_
      rintro e w' ⟨a2, c2, rfl, hv2, ho2, k2, rfl⟩
      rw [HF.out] at hv2 ho2
      rw [HF.out]
      have HV2 := hid (hv2 _ HR1.out)
      have HO2 := hid ho2
      clear hv2 ho2
      go_wp2
      go_ret
      exact ⟨_, _, rfl, HV2.out, fun R hR => HO2.out R (HR2.out R hR), below_drewN HB.out⟩

end Go.Proofs.YtfcccldofaleoaaGreatDoor.Fr
