/- Contract of the reference's greatest common divisor. Contracts of the reference's sum, product and negative of big integers. -/
import Derived.Test.YthblaeleogdfpaaGreatDoorCToam
import Derived.Test.YthblaeleogdfpaaGreatDoorCToak
set_option linter.unusedVariables false
set_option linter.unusedSimpArgs false
namespace Go.Proofs.YthblaeleogdfpaaGreatDoor.Fr
open Go.RowKit
theorem and_even (n : Nat) (h : n % 2 = 0) : bits BinOp.and IntKind.u32 ((n : Int) % 4294967296) 1 = 0 := by
 have := u32_and_nat (n % 4294967296) 1 (by omega) (by omega)
 rw [show ((n : Int) % 4294967296) = ((n % 4294967296 : Nat) : Int) from by omega, show (1 : Int) = ((1 : Nat) : Int) from rfl, this, Nat.and_one_is_mod]
 omega
theorem and_odd (n : Nat) (h : n % 2 = 1) : bits BinOp.and IntKind.u32 ((n : Int) % 4294967296) 1 = 1 := by
 have := u32_and_nat (n % 4294967296) 1 (by omega) (by omega)
 rw [show ((n : Int) % 4294967296) = ((n % 4294967296 : Nat) : Int) from by omega, show (1 : Int) = ((1 : Nat) : Int) from rfl, this, Nat.and_one_is_mod]
 omega
set_option maxRecDepth 100000 in
set_option maxHeartbeats 4000000 in
theorem ref_gcd_from (us : List Value) (u v : Value) (A B : Nat) (w : World) (hux : HoldsZ us w.heap.size w u A) (hvy : HoldsZ us w.heap.size w v B) (hA : 0 < A) (hB : 0 < B) (hlA : (dig A).length ≤ 1073741824) (hlB : (dig B).length ≤ 1073741824) :
  Calls Tryz.prog 233 #[u, v] w (GivesS us w (Nat.gcd A B)) := by
 have HLA := hid (fun n (h : n ≤ A) => Nat.le_trans (dig_length_mono h) hlA)
 have HLB := hid (fun n (h : n ≤ B) => Nat.le_trans (dig_length_mono h) hlB)
 clear hlA hlB
 have HU := hid hux
 have HV := hid hvy
 clear hux hvy
 go_enter Tryz.func233, Tryz.ntmps233
 go_wp2
 have HLM := hid (fun n (h : n ≤ max A B) => (by rcases Nat.le_total A B with h1 | h1; exact HLB.out n (by omega); exact HLA.out n (by omega) : (dig n).length ≤ 1073741824))
 go_loopg [0, 1, 5] A (fun N p q kv wr => ∃ a b k : Nat, kv = .int .i64 k ∧ a = N ∧ A = a * 2 ^ k ∧ B = b * 2 ^ k ∧ 0 < a ∧ 0 < b ∧ HoldsZ us w.heap.size wr p a ∧ HoldsZ us w.heap.size wr q b ∧ Below w.heap.size w wr)
 case atStart => exact ⟨A, B, 0, rfl, rfl, by simp, by simp, hA, hB, HU.out, HV.out, Below.refl _ _⟩
 case round =>
  clear HU HV
  obtain ⟨a, b, k, rfl, rfl, hAk, hBk, ha, hb, hpa, hqb, hbl⟩ := hrel
  have HAK := hid hAk
  have HBK := hid hBk
  have HP := hid hpa
  have HQ := hid hqb
  have HB := hid hbl
  have hbs := hbl.size
  clear hAk hBk hpa hqb hbl
  have hk63 := k_bound HAK.out ha (HLA.out A (Nat.le_refl _))
  have haA : a ≤ A := by rw [HAK.out]; exact Nat.le_mul_of_pos_right _ (Nat.two_pow_pos _)
  have hbB : b ≤ B := by rw [HBK.out]; exact Nat.le_mul_of_pos_right _ (Nat.two_pow_pos _)
  obtain ⟨b1, o1, L1, c1, rfl, hL1, hc1⟩ := HP.out.head ha
  obtain ⟨b2, o2, L2, c2, rfl, hL2, hc2⟩ := HQ.out.head hb
  by_cases he : a % 2 = 0 ∧ b % 2 = 0
  ·have e1 := and_even a he.1
   have e2 := and_even b he.2
   have HE := hid he
   clear he
   go_wp2_with fail
   refine (ref_half _ (dig a) _ HP.out.rd (HLA.out a haA) (dig_length_pos.2 ha)).mono ?_
   rintro e w1 ⟨a1, c1', rfl, hv1, ho1, hb1⟩
   rw [val_dig] at hv1 ho1
   rw [val_dig]
   have HV1 := hid hv1
   have HO1 := hid ho1
   have HB1 := hid hb1
   have hbs1 := hb1.size
   clear hv1 ho1 hb1
   go_wp2_with fail
   refine (ref_half _ (dig b) _ (HQ.out.kept HB1.out).rd (HLB.out b hbB) (dig_length_pos.2 hb)).mono ?_
   rintro e w2 ⟨a2, c2', rfl, hv2, ho2, hb2⟩
   rw [val_dig] at hv2 ho2
   rw [val_dig]
   have HV2 := hid hv2
   have HO2 := hid ho2
   have HB2 := hid hb2
   have hbs2 := hb2.size
   clear hv2 ho2 hb2
   go_wp2
   go_roundg (a / 2)
   case measure => omega
   case rel => exact ⟨a / 2, b / 2, k + 1, by go_num, rfl, half_pow HAK.out HE.out.1, half_pow HBK.out HE.out.2, by have := HE.out; omega, by have := HE.out; omega,
    (HoldsZ.of_gives hbs HV1.out HO1.out).kept HB2.out, HoldsZ.of_gives (by omega) HV2.out HO2.out, (HB.out.trans (HB1.out.mono (by omega))).trans (HB2.out.mono (by omega))⟩
  ·have HG := hid (gcd_odd he)
   have hpar : a % 2 = 1 ∨ (a % 2 = 0 ∧ b % 2 = 1) := by omega
   have HAB : Hid (Nat.gcd A B = Nat.gcd a b * 2 ^ k) := by unfold Hid; rw [HAK.out, HBK.out, Nat.gcd_mul_right]
   clear he
   rcases hpar with he | ⟨he, he'⟩
   case' inl => have e1 := and_odd a he
   case' inr => have e1 := and_even a he; have e2 := and_odd b he'; clear he'
   all_goals
    clear he
    generalize hgg : Nat.gcd a b = G at HG HAB
    have HGG := hid hgg
    clear hgg
    go_wp2
    go_loopg [0, 1] (a + b) (fun N p q wr => ∃ x y : Nat, x + y = N ∧ 0 < x ∧ x ≤ max A B ∧ y ≤ max A B ∧ Nat.gcd x y = G ∧ HoldsZ us w.heap.size wr p x ∧ HoldsZ us w.heap.size wr q y ∧ Below w.heap.size w wr)
    case atStart => exact ⟨a, b, rfl, ha, by omega, by omega, HGG.out, HP.out, HQ.out, HB.out⟩
    case round =>
     clear HP HQ HB hbs hc1 hc2 hL1 hL2
     obtain ⟨x, y, rfl, hx, hxM, hyM, hG, hpa, hqb, hbl⟩ := hrel
     have HP := hid hpa
     have HQ := hid hqb
     have HB := hid hbl
     have HGX := hid hG
     have hbs := hbl.size
     clear hpa hqb hbl hG
     obtain ⟨p2, L2, c2, rfl, hL2⟩ := HQ.out.len
     by_cases hy : 0 < y
     ·have hl := hL2.2 hy
      clear hL2
      obtain ⟨wo, rfl⟩ : ∃ wo : World, wo = wr := ⟨_, rfl⟩
      go_wp2
      go_loopg [0] x (fun N p wr => ∃ z : Nat, z = N ∧ 0 < z ∧ z ≤ x ∧ Nat.gcd z y = G ∧ HoldsZ us w.heap.size wr p z ∧ HoldsZ us w.heap.size wr (.slice p2 L2 c2) y ∧ Below w.heap.size w wr)
      case atStart => exact ⟨x, rfl, hx, Nat.le_refl _, HGX.out, HP.out, HQ.out, HB.out⟩
      case round =>
       clear HP HQ HB hbs HGX
       obtain ⟨z, rfl, hz, hzx, hG, hpa, hqb, hbl⟩ := hrel
       have HP := hid hpa
       have HQ := hid hqb
       have HB := hid hbl
       have HGX := hid hG
       have hbs := hbl.size
       clear hpa hqb hbl hG
       obtain ⟨b1, o1, L1, c1, rfl, hL1, hc1⟩ := HP.out.head hz
       by_cases hev : z % 2 = 0
       ·have e1 := and_even z hev
        have HEV := hid hev
        clear hev
        go_wp2_with fail
        refine (ref_half _ (dig z) _ HP.out.rd (HLM.out z (by omega)) (dig_length_pos.2 hz)).mono ?_
        rintro e w1 ⟨a1, c1', rfl, hv1, ho1, hb1⟩
        rw [val_dig] at hv1 ho1
        rw [val_dig]
        have HV1 := hid hv1
        have HO1 := hid ho1
        have HB1 := hid hb1
        have hbs1 := hb1.size
        clear hv1 ho1 hb1
        go_wp2
        go_roundg (z / 2)
        case measure => omega
        case rel => exact ⟨z / 2, rfl, by have := HEV.out; omega, by omega, by rw [gcd_half_left HEV.out (by rw [HGX.out]; exact HG.out)]; exact HGX.out, HoldsZ.of_gives hbs HV1.out HO1.out, HQ.out.kept HB1.out, HB.out.trans (HB1.out.mono (by omega))⟩
       ·have e1 := and_odd z (by omega)
        have HEV := hid hev
        clear hev
        obtain ⟨wo, rfl⟩ : ∃ wo : World, wo = wr := ⟨_, rfl⟩
        go_wp2
        go_loopg [1] y (fun N q wr => ∃ v : Nat, v = N ∧ 0 < v ∧ v ≤ y ∧ Nat.gcd z v = G ∧ HoldsZ us w.heap.size wr (.slice (some ⟨b1, o1, none⟩) L1 c1) z ∧ HoldsZ us w.heap.size wr q v ∧ Below w.heap.size w wr)
        case atStart => exact ⟨y, rfl, hy, Nat.le_refl _, HGX.out, HP.out, HQ.out, HB.out⟩
        case round =>
         clear HP HQ HB hbs HGX e1 hc1
         obtain ⟨v, rfl, hv, hvy, hG, hpa, hqb, hbl⟩ := hrel
         have HP := hid hpa
         have HQ := hid hqb
         have HB := hid hbl
         have HGX := hid hG
         have hbs := hbl.size
         clear hpa hqb hbl hG
         obtain ⟨b2, o2, L2, c2, rfl, hL2, hc2⟩ := HQ.out.head hv
         by_cases hev : v % 2 = 0
         ·have e1 := and_even v hev
          have HEV2 := hid hev
          clear hev
          go_wp2_with fail
          refine (ref_half _ (dig v) _ HQ.out.rd (HLM.out v (by omega)) (dig_length_pos.2 hv)).mono ?_
          rintro e w1 ⟨a1, c1', rfl, hv1, ho1, hb1⟩
          rw [val_dig] at hv1 ho1
          rw [val_dig]
          have HV1 := hid hv1
          have HO1 := hid ho1
          have HB1 := hid hb1
          have hbs1 := hb1.size
          clear hv1 ho1 hb1
          go_wp2
          go_roundg (v / 2)
          case measure => omega
          case rel => exact ⟨v / 2, rfl, by have := HEV2.out; omega, by omega, by rw [gcd_half_right HEV2.out (by rw [HGX.out]; exact HG.out)]; exact HGX.out, HP.out.kept HB1.out, HoldsZ.of_gives hbs HV1.out HO1.out, HB.out.trans (HB1.out.mono (by omega))⟩
         ·have e1 := and_odd v (by omega)
          clear hev
          go_wp2_with fail
          refine (ref_cmp _ _ (dig z) (dig v) _ HP.out.rd HQ.out.rd).mono ?_
          rw [cmpL_dig]
          rintro e w1 ⟨rfl, k1, rfl⟩
          have HP := hid (HP.out.kept (w' := wr.drewN k1) (below_drewN (Below.refl _ _)))
          have HQ := hid (HQ.out.kept (w' := wr.drewN k1) (below_drewN (Below.refl _ _)))
          have HB := hid (below_drewN (n := k1) HB.out)
          by_cases hgt : v < z
          ·rw [sgn_gt hgt]
           go_wp2_with fail
           refine (ref_sub _ _ (dig z) (dig v) _ HP.out.rd HQ.out.rd (HLM.out z (by omega)) (by rw [val_dig, val_dig]; omega) (dig_length_mono (by omega))).mono ?_
           rintro e w2 ⟨a3, c3, rfl, hv3, ho3, hb3⟩
           rw [val_dig, val_dig] at hv3 ho3
           rw [val_dig, val_dig]
           have HV3 := hid hv3
           have HO3 := hid ho3
           have HB3 := hid hb3
           clear hv3 ho3 hb3
           go_wp2
           go_roundg z
           case measure => omega
           case rel => exact ⟨v, z - v, by omega, hv, by omega, by omega, by rw [gcd_sub_le (by omega), Nat.gcd_comm]; exact HGX.out, HQ.out.kept HB3.out, HoldsZ.of_gives hbs HV3.out HO3.out, HB.out.trans (HB3.out.mono hbs)⟩
          ·have hle : sgn z v ≤ 0 := by
            rcases Nat.lt_or_ge z v with h | h
            ·rw [sgn_lt h]; omega
            ·rw [show z = v from by omega, sgn_self]; omega
           generalize sgn z v = sg at *
           go_wp2_with fail
           refine (ref_sub _ _ (dig v) (dig z) _ HQ.out.rd HP.out.rd (HLM.out v (by omega)) (by rw [val_dig, val_dig]; omega) (dig_length_mono (by omega))).mono ?_
           rintro e w2 ⟨a3, c3, rfl, hv3, ho3, hb3⟩
           rw [val_dig, val_dig] at hv3 ho3
           rw [val_dig, val_dig]
           have HV3 := hid hv3
           have HO3 := hid ho3
           have HB3 := hid hb3
           clear hv3 ho3 hb3
           go_wp2
           go_roundg v
           case measure => omega
           case rel => exact ⟨z, v - z, by omega, hz, by omega, by omega, by rw [gcd_sub_le (by omega)]; exact HGX.out, HP.out.kept HB3.out, HoldsZ.of_gives hbs HV3.out HO3.out, HB.out.trans (HB3.out.mono hbs)⟩
     ·obtain rfl : y = 0 := by omega
      have hL0 : L2 = 0 := by omega
      subst hL0
      have HXG : Hid (x = G) := by have := HGX.out; rwa [Nat.gcd_zero_right] at this
      clear hL2 HGX
      have hGM : ∀ j, j ≤ k → G * 2 ^ j ≤ A := fun j hj => by
       have h1 : Nat.gcd A B ≤ A := Nat.gcd_le_left _ hA
       have h2 : G * 2 ^ j ≤ G * 2 ^ k := Nat.mul_le_mul_left _ (Nat.pow_le_pow_right (by omega) hj)
       rw [HAB.out] at h1
       omega
      have HGM := hid hGM
      clear hGM
      obtain ⟨wo, rfl⟩ : ∃ wo : World, wo = wr := ⟨_, rfl⟩
      go_wp2
      go_loopg [0, 5] k (fun N p kv wr => ∃ j : Nat, j = N ∧ kv = .int .i64 j ∧ j ≤ k ∧ HoldsZ us w.heap.size wr p (G * 2 ^ (k - j)) ∧ Below w.heap.size w wr)
      case atStart => exact ⟨k, rfl, rfl, Nat.le_refl _, by rw [Nat.sub_self, Nat.pow_zero, Nat.mul_one, ← HXG.out]; exact HP.out, HB.out⟩
      case round =>
       clear HP HQ HB hbs
       obtain ⟨j, rfl, rfl, hj, hpa, hbl⟩ := hrel
       have HP := hid hpa
       have HB := hid hbl
       have hbs := hbl.size
       clear hpa hbl
       by_cases hj0 : 0 < j
       ·go_wp2_with fail
        refine (ref_twice _ (dig (G * 2 ^ (k - j))) 0 _ HP.out.rd (HLA.out _ (HGM.out _ (by omega))) (by omega)).mono ?_
        rintro e w2 ⟨a3, c3, rfl, hv3, ho3, hb3⟩
        have e5 : 2 * val (dig (G * 2 ^ (k - j))) + 0 = G * 2 ^ (k - (j - 1)) := by
         rw [val_dig, show k - (j - 1) = (k - j) + 1 from by omega, Nat.pow_succ, Nat.add_zero, Nat.mul_comm 2, Nat.mul_assoc]
        rw [e5] at hv3 ho3
        rw [e5]
        have HV3 := hid hv3
        have HO3 := hid ho3
        have HB3 := hid hb3
        clear hv3 ho3 hb3 e5
        go_wp2
        go_roundg (j - 1)
        case measure => omega
        case rel => exact ⟨j - 1, rfl, by go_num, by omega, HoldsZ.of_gives hbs HV3.out HO3.out, HB.out.trans (HB3.out.mono hbs)⟩
       ·obtain rfl : j = 0 := by omega
        go_wp2
        go_ret
        exact ⟨_, rfl, by rw [HAB.out]; exact HP.out, HB.out⟩
theorem ref_gcd (u v : Value) (A B : Nat) (w : World) (hx : Rd32 w u (dig A)) (hy : Rd32 w v (dig B)) (hA : 0 < A) (hB : 0 < B) (hlA : (dig A).length ≤ 1073741824) (hlB : (dig B).length ≤ 1073741824) :
  Calls Tryz.prog 233 #[u, v] w (GivesS [u, v] w (Nat.gcd A B)) := by
 refine ref_gcd_from _ u v A B w ?_ ?_ hA hB hlA hlB
 ·obtain ⟨a, c, rfl, h⟩ := hx
  exact ⟨a, c, rfl, ⟨a, c, rfl, h⟩, fun R _ h => h _ (by simp)⟩
 ·obtain ⟨a, c, rfl, h⟩ := hy
  exact ⟨a, c, rfl, ⟨a, c, rfl, h⟩, fun R _ h => h _ (by simp)⟩
end Go.Proofs.YthblaeleogdfpaaGreatDoor.Fr

namespace Go.Proofs.YthblaeleogdfpaaGreatDoor.Fr
open Go.RowKit
def RdZ (w : World) (v : Value) (z : Int) : Prop :=
  ∃ a c, v = .agg #[.bool (decide (z < 0)), .slice a (dig z.natAbs).length c] ∧ Rd32 w (.slice a (dig z.natAbs).length c) (dig z.natAbs)
theorem RdZ.kept {w w' : World} {v : Value} {z : Int} (h : RdZ w v z) (hb : Below w.heap.size w w') : RdZ w' v z := by
 obtain ⟨a, c, e, h⟩ := h; exact ⟨a, c, e, h.kept hb⟩
theorem RdZ.alloc {w : World} {v : Value} {z : Int} (h : RdZ w v z) {o : Obj} : RdZ (w.alloc o) v z := h.kept ((Below.refl _ _).alloc (Nat.le_refl _) _)
def GivesI (us : List Value) (w : World) (z : Int) (e : Ending) (w' : World) : Prop :=
  ∃ a c, e = .returned (.agg #[.bool (decide (z < 0)), .slice a (dig z.natAbs).length c]) ∧ Rd32 w' (.slice a (dig z.natAbs).length c) (dig z.natAbs) ∧
    (∀ R, R < w.heap.size → (∀ u ∈ us, Off R u) → Off R (.slice a (dig z.natAbs).length c)) ∧ Below w.heap.size w w'
theorem givesI_of {us : List Value} {w w' : World} {neg : Bool} {n : Nat} {z : Int} {e : Ending} (h : GivesZ us w neg n e w') (hz : z = if neg then -(n : Int) else (n : Int)) : GivesI us w z e w' := by
 obtain ⟨a, c, rfl, h1, h2, h3⟩ := h
 have hn : z.natAbs = n := by rw [hz]; split <;> omega
 have hs : (neg && decide (0 < n)) = decide (z < 0) := by
  rw [hz]; cases neg <;> simp <;> omega
 exact ⟨a, c, by rw [hs, hn], by rw [hn]; exact h1, by rw [hn]; exact h2, h3⟩
set_option maxRecDepth 100000 in
set_option maxHeartbeats 2000000 in
theorem ref_Plus (u v : Value) (x y : Int) (w : World) (hx : RdZ w u x) (hy : RdZ w v y) (hlx : (dig x.natAbs).length ≤ 1073741824) (hly : (dig y.natAbs).length ≤ 1073741824) :
  Calls Tryz.prog 193 #[u, v] w (GivesI [] w (x + y)) := by
 obtain ⟨a, c, rfl, hx⟩ := hx
 obtain ⟨a', c', rfl, hy⟩ := hy
 have HX := hid hx
 have HY := hid hy
 have HLX := hid hlx
 have HLY := hid hly
 clear hx hy hlx hly
 generalize hn : (dig x.natAbs).length = n at *
 generalize hn' : (dig y.natAbs).length = n' at *
 have HN := hid hn
 have HN' := hid hn'
 clear hn hn'
 by_cases hs : (decide (x < 0)) = (decide (y < 0))
 ·have hs1 : x + y = if decide (x < 0) then -((x.natAbs + y.natAbs : Nat) : Int) else ((x.natAbs + y.natAbs : Nat) : Int) := by
   have h2 : (x < 0) ↔ (y < 0) := by simpa using hs
   by_cases h3 : x < 0
   ·have := h2.1 h3; simp only [h3, decide_true, if_true]; omega
   ·have : ¬ y < 0 := fun h => h3 (h2.2 h)
    simp only [h3, decide_false]; simp only [Bool.false_eq_true, if_false]; omega
  have HS := hid hs1
  clear hs1
  rw [← hs]
  generalize decide (x < 0) = s at *
  clear hs
  go_enter Tryz.func193, Tryz.ntmps193
  go_wp2
  go_region_held3 (fun w' => w'.cell? ⟨w.heap.size, 0, none⟩ = some (.bool s) ∧ w'.cell? ⟨w.heap.size, 1, none⟩ = some (.slice a n c) ∧ w'.cell? ⟨w.heap.size + 1, 1, none⟩ = some (.slice a' n' c')) (first | exact ⟨k0, k1, k2⟩ | exact ⟨j0, j1, j2⟩ | (refine ⟨?_, ?_, ?_⟩ <;> (rw [World.cell?_setCell_other _ _ _ _ (by intro h; injection h with h; omega), World.cell?_setCell_other _ _ _ _ (by intro h; injection h with h; omega)]; assumption)) | go_keep)
   (first
    | (go_at_call 247; go_must ((refine (ref_add _ _ _ _ _ (HX.out.kept (by repeat' (first | (with_reducible exact Below.refl _ _) | (with_reducible assumption) | (with_reducible refine below_drewN ?_) | (with_reducible refine Below.alloc ?_ ?_ _) | (with_reducible refine Below.drew ?_) | (with_reducible refine Below.setCell ?_ ?_ _) | (with_reducible refine Below.trans ?_ (Below.mono (by with_reducible assumption) ?_)) | go_size))) (HY.out.kept (by repeat' (first | (with_reducible exact Below.refl _ _) | (with_reducible assumption) | (with_reducible refine below_drewN ?_) | (with_reducible refine Below.alloc ?_ ?_ _) | (with_reducible refine Below.drew ?_) | (with_reducible refine Below.setCell ?_ ?_ _) | (with_reducible refine Below.trans ?_ (Below.mono (by with_reducible assumption) ?_)) | go_size))) (by rw [HN.out]; exact HLX.out) (by rw [HN'.out]; exact HLY.out)).mono ?_; rintro e w1 ⟨ra, rc, zs, rfl, hr1, hr3, hr2, hr4⟩; rw [val_dig, val_dig] at hr3; have HR1 := hid hr1; have HR2 := hid hr2; have HR3 := hid hr3; have HR4 := hid hr4; have hz1 := hr4.size; clear hr1 hr2 hr3 hr4; simp at hz1; have k0 := cell_later HR4.out (a := ⟨w.heap.size, 0, none⟩) (v := .bool s) (by go_cell); have k1 := cell_later HR4.out (a := ⟨w.heap.size, 1, none⟩) (v := .slice a n c) (by go_cell); have k2 := cell_later HR4.out (a := ⟨w.heap.size + 1, 1, none⟩) (v := .slice a' n' c') (by go_cell); have k8 := cell_later HR4.out (a := ⟨w.heap.size + 1 + 1, 0, none⟩) (v := .bool false) (by go_cell); have k9 := cell_later HR4.out (a := ⟨w.heap.size + 1 + 1, 1, none⟩) (v := .slice none 0 0) (by go_cell); have f8 := frozen_later HR4.out (a := ⟨w.heap.size + 1 + 1, 0, none⟩) (v := .bool false) (by go_cell) (by simp [go_sem]); have f9 := frozen_later HR4.out (a := ⟨w.heap.size + 1 + 1, 1, none⟩) (v := .slice none 0 0) (by go_cell) (by simp [go_sem]))))
    | (go_at_call 175; go_must ((refine (ref_big _ _ _ _ HR1.out).mono ?_; rintro e w2 ⟨ra2, rc2, rfl, hr1, hr2, hr4⟩; rw [HR3.out] at hr1 hr2; rw [HR3.out]; have HP1 := hid hr1; have HP2 := hid hr2; have HP4 := hid hr4; have hz2 := hr4.size; clear hr1 hr2 hr4; have j0 := cell_later HP4.out k0; have j1 := cell_later HP4.out k1; have j2 := cell_later HP4.out k2; have j8 := cell_later HP4.out k8; have j9 := cell_later HP4.out k9; have g8 := frozen_later HP4.out k8 f8; have g9 := frozen_later HP4.out k9 f9))))
  go_wp2
  refine bodyPost_ret (by simp [results, Tryz.results193, go_sem, j8, j9]; rfl) rfl ?_
  have hof : Off (w.heap.size + 1 + 1) _ := HP2.out _ (by omega) (fun u hu => by simp at hu; subst hu; exact HR2.out _ (by simp))
  exact givesI_of (us := []) ⟨ra2, rc2, rfl, (HP1.out.setCell hof).setCell hof, fun R hR _ => HP2.out R (by omega) (fun u hu => by simp at hu; subst hu; exact HR2.out R (by simp; omega)), by have hb4 := HR4.out; have hb5 := HP4.out; repeat' (first | (with_reducible exact Below.refl _ _) | (with_reducible assumption) | (with_reducible refine below_drewN ?_) | (with_reducible refine Below.alloc ?_ ?_ _) | (with_reducible refine Below.drew ?_) | (with_reducible refine Below.setCell ?_ ?_ _) | (with_reducible refine Below.trans ?_ (Below.mono (by with_reducible assumption) ?_)) | go_size)⟩ HS.out
 ·have hne : ((decide (x < 0)) == (decide (y < 0))) = false := by simpa using hs
  have hsg : decide (y < 0) = !decide (x < 0) := by
   cases h1 : decide (x < 0) <;> cases h2 : decide (y < 0) <;> simp_all
  have HSX : Hid (x = if decide (x < 0) then -(x.natAbs : Int) else (x.natAbs : Int)) := by
   unfold Hid
   by_cases h : x < 0
   ·simp only [h, decide_true, if_true]; omega
   ·simp only [h, decide_false, Bool.false_eq_true, if_false]; omega
  have HSY : Hid (y = if !decide (x < 0) then -(y.natAbs : Int) else (y.natAbs : Int)) := by
   unfold Hid
   rw [← hsg]
   by_cases h : y < 0
   ·simp only [h, decide_true, if_true]; omega
   ·simp only [h, decide_false, Bool.false_eq_true, if_false]; omega
  rw [hsg]
  clear hs hne hsg
  generalize decide (x < 0) = s at *
  have hne : (s == !s) = false := by cases s <;> rfl
  go_enter Tryz.func193, Tryz.ntmps193
  go_wp2_with fail
  refine (ref_cmp _ _ _ _ _ (HX.out.kept (by repeat' (first | (with_reducible exact Below.refl _ _) | (with_reducible assumption) | (with_reducible refine below_drewN ?_) | (with_reducible refine Below.alloc ?_ ?_ _) | (with_reducible refine Below.drew ?_) | (with_reducible refine Below.setCell ?_ ?_ _) | (with_reducible refine Below.trans ?_ (Below.mono (by with_reducible assumption) ?_)) | go_size))) (HY.out.kept (by repeat' (first | (with_reducible exact Below.refl _ _) | (with_reducible assumption) | (with_reducible refine below_drewN ?_) | (with_reducible refine Below.alloc ?_ ?_ _) | (with_reducible refine Below.drew ?_) | (with_reducible refine Below.setCell ?_ ?_ _) | (with_reducible refine Below.trans ?_ (Below.mono (by with_reducible assumption) ?_)) | go_size)))).mono ?_
  rw [cmpL_dig]
  rintro e w9 ⟨rfl, k9, rfl⟩
  by_cases hge : y.natAbs ≤ x.natAbs
  ·have hsg := sgn_nonneg.2 hge
   have hs1 : x + y = if s then -((x.natAbs - y.natAbs : Nat) : Int) else ((x.natAbs - y.natAbs : Nat) : Int) := by
    have h1 := HSX.out
    have h2 := HSY.out
    cases s <;> simp only [Bool.not_false, Bool.not_true, if_true, Bool.false_eq_true, if_false] at h1 h2 ⊢ <;> omega
   have HS := hid hs1
   have HGE := hid hge
   clear hs1 hge
   generalize sgn x.natAbs y.natAbs = sg at *
   go_wp2
   go_region_held3 (fun w' => w'.cell? ⟨w.heap.size, 0, none⟩ = some (.bool s) ∧ w'.cell? ⟨w.heap.size, 1, none⟩ = some (.slice a n c) ∧ w'.cell? ⟨w.heap.size + 1, 1, none⟩ = some (.slice a' n' c')) (first | exact ⟨k0, k1, k2⟩ | exact ⟨j0, j1, j2⟩ | (refine ⟨?_, ?_, ?_⟩ <;> (rw [World.cell?_setCell_other _ _ _ _ (by intro h; injection h with h; omega), World.cell?_setCell_other _ _ _ _ (by intro h; injection h with h; omega)]; assumption)) | go_keep)
    (first
     | (go_at_call 248; go_must ((refine (ref_sub _ _ _ _ _ (HX.out.kept (by repeat' (first | (with_reducible exact Below.refl _ _) | (with_reducible assumption) | (with_reducible refine below_drewN ?_) | (with_reducible refine Below.alloc ?_ ?_ _) | (with_reducible refine Below.drew ?_) | (with_reducible refine Below.setCell ?_ ?_ _) | (with_reducible refine Below.trans ?_ (Below.mono (by with_reducible assumption) ?_)) | go_size))) (HY.out.kept (by repeat' (first | (with_reducible exact Below.refl _ _) | (with_reducible assumption) | (with_reducible refine below_drewN ?_) | (with_reducible refine Below.alloc ?_ ?_ _) | (with_reducible refine Below.drew ?_) | (with_reducible refine Below.setCell ?_ ?_ _) | (with_reducible refine Below.trans ?_ (Below.mono (by with_reducible assumption) ?_)) | go_size))) (by rw [HN.out]; exact HLX.out) (by rw [val_dig, val_dig]; exact HGE.out) (dig_length_mono HGE.out)).mono ?_; rintro e w1 ⟨ra, rc, rfl, hr1, hr2, hr4⟩; rw [val_dig, val_dig] at hr1 hr2; rw [val_dig, val_dig]; have hr3 := val_dig (x.natAbs - y.natAbs); have HR1 := hid hr1; have HR2 := hid hr2; have HR3 := hid hr3; have HR4 := hid hr4; have hz1 := hr4.size; clear hr1 hr2 hr3 hr4; simp at hz1; have k0 := cell_later HR4.out (a := ⟨w.heap.size, 0, none⟩) (v := .bool s) (by go_cell); have k1 := cell_later HR4.out (a := ⟨w.heap.size, 1, none⟩) (v := .slice a n c) (by go_cell); have k2 := cell_later HR4.out (a := ⟨w.heap.size + 1, 1, none⟩) (v := .slice a' n' c') (by go_cell); have k8 := cell_later HR4.out (a := ⟨w.heap.size + 1 + 1, 0, none⟩) (v := .bool false) (by go_cell); have k9 := cell_later HR4.out (a := ⟨w.heap.size + 1 + 1, 1, none⟩) (v := .slice none 0 0) (by go_cell); have f8 := frozen_later HR4.out (a := ⟨w.heap.size + 1 + 1, 0, none⟩) (v := .bool false) (by go_cell) (by simp [go_sem]); have f9 := frozen_later HR4.out (a := ⟨w.heap.size + 1 + 1, 1, none⟩) (v := .slice none 0 0) (by go_cell) (by simp [go_sem]))))
     | (go_at_call 175; go_must ((refine (ref_big _ _ _ _ HR1.out).mono ?_; rintro e w2 ⟨ra2, rc2, rfl, hr1, hr2, hr4⟩; rw [HR3.out] at hr1 hr2; rw [HR3.out]; have HP1 := hid hr1; have HP2 := hid hr2; have HP4 := hid hr4; have hz2 := hr4.size; clear hr1 hr2 hr4; have j0 := cell_later HP4.out k0; have j1 := cell_later HP4.out k1; have j2 := cell_later HP4.out k2; have j8 := cell_later HP4.out k8; have j9 := cell_later HP4.out k9; have g8 := frozen_later HP4.out k8 f8; have g9 := frozen_later HP4.out k9 f9))))
   go_wp2
   refine bodyPost_ret (by simp [results, Tryz.results193, go_sem, j8, j9]; rfl) rfl ?_
   have hof : Off (w.heap.size + 1 + 1) _ := HP2.out _ (by omega) (fun u hu => by simp at hu; subst hu; exact HR2.out _ (by simp))
   exact givesI_of (us := []) ⟨ra2, rc2, rfl, (HP1.out.setCell hof).setCell hof, fun R hR _ => HP2.out R (by omega) (fun u hu => by simp at hu; subst hu; exact HR2.out R (by simp; omega)), by have hb4 := HR4.out; have hb5 := HP4.out; repeat' (first | (with_reducible exact Below.refl _ _) | (with_reducible assumption) | (with_reducible refine below_drewN ?_) | (with_reducible refine Below.alloc ?_ ?_ _) | (with_reducible refine Below.drew ?_) | (with_reducible refine Below.setCell ?_ ?_ _) | (with_reducible refine Below.trans ?_ (Below.mono (by with_reducible assumption) ?_)) | go_size)⟩ HS.out
  ·have hsg : ¬ 0 ≤ sgn x.natAbs y.natAbs := fun h => hge (sgn_nonneg.1 h)
   have hle : x.natAbs ≤ y.natAbs := by omega
   have hs1 : x + y = if !s then -((y.natAbs - x.natAbs : Nat) : Int) else ((y.natAbs - x.natAbs : Nat) : Int) := by
    have h1 := HSX.out
    have h2 := HSY.out
    cases s <;> simp only [Bool.not_false, Bool.not_true, if_true, Bool.false_eq_true, if_false] at h1 h2 ⊢ <;> omega
   have HS := hid hs1
   have HGE := hid hle
   clear hs1 hle hge
   generalize sgn x.natAbs y.natAbs = sg at *
   go_wp2
   go_region_held3 (fun w' => w'.cell? ⟨w.heap.size + 1, 0, none⟩ = some (.bool (!s)) ∧ w'.cell? ⟨w.heap.size + 1, 1, none⟩ = some (.slice a' n' c') ∧ w'.cell? ⟨w.heap.size, 1, none⟩ = some (.slice a n c)) (first | exact ⟨k0, k1, k2⟩ | exact ⟨j0, j1, j2⟩ | (refine ⟨?_, ?_, ?_⟩ <;> (rw [World.cell?_setCell_other _ _ _ _ (by intro h; injection h with h; omega), World.cell?_setCell_other _ _ _ _ (by intro h; injection h with h; omega)]; assumption)) | go_keep)
    (first
     | (go_at_call 248; go_must ((refine (ref_sub _ _ _ _ _ (HY.out.kept (by repeat' (first | (with_reducible exact Below.refl _ _) | (with_reducible assumption) | (with_reducible refine below_drewN ?_) | (with_reducible refine Below.alloc ?_ ?_ _) | (with_reducible refine Below.drew ?_) | (with_reducible refine Below.setCell ?_ ?_ _) | (with_reducible refine Below.trans ?_ (Below.mono (by with_reducible assumption) ?_)) | go_size))) (HX.out.kept (by repeat' (first | (with_reducible exact Below.refl _ _) | (with_reducible assumption) | (with_reducible refine below_drewN ?_) | (with_reducible refine Below.alloc ?_ ?_ _) | (with_reducible refine Below.drew ?_) | (with_reducible refine Below.setCell ?_ ?_ _) | (with_reducible refine Below.trans ?_ (Below.mono (by with_reducible assumption) ?_)) | go_size))) (by rw [HN'.out]; exact HLY.out) (by rw [val_dig, val_dig]; exact HGE.out) (dig_length_mono HGE.out)).mono ?_; rintro e w1 ⟨ra, rc, rfl, hr1, hr2, hr4⟩; rw [val_dig, val_dig] at hr1 hr2; rw [val_dig, val_dig]; have hr3 := val_dig (y.natAbs - x.natAbs); have HR1 := hid hr1; have HR2 := hid hr2; have HR3 := hid hr3; have HR4 := hid hr4; have hz1 := hr4.size; clear hr1 hr2 hr3 hr4; simp at hz1; have k0 := cell_later HR4.out (a := ⟨w.heap.size + 1, 0, none⟩) (v := .bool (!s)) (by go_cell); have k1 := cell_later HR4.out (a := ⟨w.heap.size + 1, 1, none⟩) (v := .slice a' n' c') (by go_cell); have k2 := cell_later HR4.out (a := ⟨w.heap.size, 1, none⟩) (v := .slice a n c) (by go_cell); have k8 := cell_later HR4.out (a := ⟨w.heap.size + 1 + 1, 0, none⟩) (v := .bool false) (by go_cell); have k9 := cell_later HR4.out (a := ⟨w.heap.size + 1 + 1, 1, none⟩) (v := .slice none 0 0) (by go_cell); have f8 := frozen_later HR4.out (a := ⟨w.heap.size + 1 + 1, 0, none⟩) (v := .bool false) (by go_cell) (by simp [go_sem]); have f9 := frozen_later HR4.out (a := ⟨w.heap.size + 1 + 1, 1, none⟩) (v := .slice none 0 0) (by go_cell) (by simp [go_sem]))))
     | (go_at_call 175; go_must ((refine (ref_big _ _ _ _ HR1.out).mono ?_; rintro e w2 ⟨ra2, rc2, rfl, hr1, hr2, hr4⟩; rw [HR3.out] at hr1 hr2; rw [HR3.out]; have HP1 := hid hr1; have HP2 := hid hr2; have HP4 := hid hr4; have hz2 := hr4.size; clear hr1 hr2 hr4; have j0 := cell_later HP4.out k0; have j1 := cell_later HP4.out k1; have j2 := cell_later HP4.out k2; have j8 := cell_later HP4.out k8; have j9 := cell_later HP4.out k9; have g8 := frozen_later HP4.out k8 f8; have g9 := frozen_later HP4.out k9 f9))))
   go_wp2
   refine bodyPost_ret (by simp [results, Tryz.results193, go_sem, j8, j9]; rfl) rfl ?_
   have hof : Off (w.heap.size + 1 + 1) _ := HP2.out _ (by omega) (fun u hu => by simp at hu; subst hu; exact HR2.out _ (by simp))
   exact givesI_of (us := []) ⟨ra2, rc2, rfl, (HP1.out.setCell hof).setCell hof, fun R hR _ => HP2.out R (by omega) (fun u hu => by simp at hu; subst hu; exact HR2.out R (by simp; omega)), by have hb4 := HR4.out; have hb5 := HP4.out; repeat' (first | (with_reducible exact Below.refl _ _) | (with_reducible assumption) | (with_reducible refine below_drewN ?_) | (with_reducible refine Below.alloc ?_ ?_ _) | (with_reducible refine Below.drew ?_) | (with_reducible refine Below.setCell ?_ ?_ _) | (with_reducible refine Below.trans ?_ (Below.mono (by with_reducible assumption) ?_)) | go_size)⟩ HS.out
end Go.Proofs.YthblaeleogdfpaaGreatDoor.Fr
