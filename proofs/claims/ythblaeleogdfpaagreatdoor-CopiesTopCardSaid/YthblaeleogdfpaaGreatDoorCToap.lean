/- Plain: division bit by bit, on digits to the base 2^32. No program in sight. Contracts of the reference's bit, div, lowest, Make, Of. Contracts of the reference's lowest, Make, Of, at a denominator greater than 0. -/
import Derived.Test.YthblaeleogdfpaaGreatDoorCToai
import Derived.Test.YthblaeleogdfpaaGreatDoorCToao
import Derived.Test.YthblaeleogdfpaaGreatDoorCToab
set_option linter.unusedVariables false
set_option linter.unusedSimpArgs false
namespace Go.Proofs.YthblaeleogdfpaaGreatDoor.Fr
theorem dig_digit : ∀ (k A : Nat), (dig A).getD k 0 = A / 4294967296 ^ k % 4294967296
 | 0, A => by rw [dig_getD_zero]; simp
 | k + 1, A => by
  by_cases h : A = 0
  ·subst h; rw [dig_zero]; simp
  ·rw [dig_pos (by omega), List.getD_cons_succ, dig_digit k, Nat.div_div_eq_div_mul, Nat.pow_succ, Nat.mul_comm]
theorem pow_split (i : Nat) : 2 ^ i = 4294967296 ^ (i / 32) * 2 ^ (i % 32) := by
 have h := Nat.div_add_mod i 32
 rw [show (4294967296 : Nat) = 2 ^ 32 from rfl, ← Nat.pow_mul, ← Nat.pow_add, h]
theorem bit_at (A i : Nat) : (dig A).getD (i / 32) 0 / 2 ^ (i % 32) % 2 = A / 2 ^ i % 2 := by
 rw [dig_digit, pow_split i, ← Nat.div_div_eq_div_mul]
 generalize A / 4294967296 ^ (i / 32) = X
 have hj : i % 32 < 32 := Nat.mod_lt _ (by omega)
 generalize i % 32 = j at *
 have h1 : X % 4294967296 / 2 ^ j % 2 = X / 2 ^ j % 2 := by
  have h2 : (4294967296 : Nat) = 2 ^ j * (2 * 2 ^ (31 - j)) := by
   rw [show (4294967296 : Nat) = 2 ^ 32 from rfl, ← Nat.pow_succ', ← Nat.pow_add]
   congr 1; omega
  rw [h2, Nat.mod_mul_right_div_self, Nat.mod_mul_right_mod]
 exact h1
theorem or_bit {d j : Nat} (h : d % 2 ^ (j + 1) = 0) : d ||| 2 ^ j = d + 2 ^ j := by
 obtain ⟨m, hm⟩ : ∃ m, d = 2 ^ (j + 1) * m := ⟨d / 2 ^ (j + 1), by have := Nat.div_add_mod d (2 ^ (j + 1)); omega⟩
 have h2 : 2 ^ j < 2 ^ (j + 1) := Nat.pow_lt_pow_right (by omega) (by omega)
 rw [hm, Nat.two_pow_add_eq_or_of_lt h2]
structure DivIn (A B i : Nat) (zs : List Nat) (r : Nat) : Prop where
  len : zs.length = (dig A).length
  digs : Digs zs
  quo : val zs = A / 2 ^ i / B * 2 ^ i
  rem : r = A / 2 ^ i % B
theorem val_digit : ∀ (k : Nat) {zs : List Nat}, Digs zs → zs.getD k 0 = val zs / 4294967296 ^ k % 4294967296
 | k, [], _ => by simp [val]
 | 0, z :: zs, h => by
  have := h.head
  simp [val]
  omega
 | k + 1, z :: zs, h => by
  have h1 := h.head
  rw [List.getD_cons_succ, val_digit k h.tail, Nat.pow_succ, Nat.mul_comm, ← Nat.div_div_eq_div_mul]
  congr 2
  simp only [val]
  omega
theorem DivIn.start (A B : Nat) : DivIn A B (32 * (dig A).length) (List.replicate (dig A).length 0) 0 := by
 have h0 : A / 2 ^ (32 * (dig A).length) = 0 := by
  apply Nat.div_eq_of_lt
  have h1 := val_lt (digs_dig A)
  rw [val_dig] at h1
  rw [Nat.pow_mul]
  exact h1
 refine ⟨by simp, fun i => ?_, ?_, ?_⟩
 ·by_cases h : i < (dig A).length
  ·simp [List.getD, h]
  ·simp [List.getD, Nat.not_lt.1 h]
 ·rw [val_replicate, h0]; simp
 ·rw [h0]; simp
section
variable {A B i : Nat} {zs : List Nat} {r : Nat}
theorem DivIn.half (_ : DivIn A B (i + 1) zs r) : A / 2 ^ i = 2 * (A / 2 ^ (i + 1)) + A / 2 ^ i % 2 := by
 rw [Nat.pow_succ, ← Nat.div_div_eq_div_mul]
 have := Nat.div_add_mod (A / 2 ^ i) 2
 omega
theorem DivIn.down (h : DivIn A B (i + 1) zs r) (hB : 0 < B) (hlt : 2 * r + A / 2 ^ i % 2 < B) : DivIn A B i zs (2 * r + A / 2 ^ i % 2) := by
 have h1 := h.half
 have h2 := Nat.div_add_mod (A / 2 ^ (i + 1)) B
 rw [← h.rem] at h2
 have h3 : A / 2 ^ i = B * (2 * (A / 2 ^ (i + 1) / B)) + (2 * r + A / 2 ^ i % 2) := by
  have h4 : B * (2 * (A / 2 ^ (i + 1) / B)) = 2 * (B * (A / 2 ^ (i + 1) / B)) := by rw [Nat.mul_left_comm]
  omega
 have h5 : A / 2 ^ i / B = 2 * (A / 2 ^ (i + 1) / B) := by
  have h7 : (B * (2 * (A / 2 ^ (i + 1) / B)) + (2 * r + A / 2 ^ i % 2)) / B = 2 * (A / 2 ^ (i + 1) / B) := by
   rw [Nat.mul_add_div hB, Nat.div_eq_of_lt hlt, Nat.add_zero]
  rw [← h3] at h7
  exact h7
 have h6 : A / 2 ^ i % B = 2 * r + A / 2 ^ i % 2 := by
  have h7 : (B * (2 * (A / 2 ^ (i + 1) / B)) + (2 * r + A / 2 ^ i % 2)) % B = 2 * r + A / 2 ^ i % 2 := by rw [Nat.mul_add_mod, Nat.mod_eq_of_lt hlt]
  rw [← h3] at h7
  exact h7
 refine ⟨h.len, h.digs, ?_, h6.symm⟩
 rw [h.quo, h5, Nat.pow_succ, Nat.mul_comm (2 ^ i) 2, Nat.mul_left_comm, Nat.mul_assoc, Nat.mul_left_comm]
theorem DivIn.clear (h : DivIn A B (i + 1) zs r) : zs.getD (i / 32) 0 % 2 ^ (i % 32 + 1) = 0 := by
 rw [val_digit _ h.digs, h.quo]
 generalize A / 2 ^ (i + 1) / B = Q
 have hj : i % 32 < 32 := Nat.mod_lt _ (by omega)
 have h1 : 2 ^ (i + 1) = 4294967296 ^ (i / 32) * 2 ^ (i % 32 + 1) := by rw [Nat.pow_succ, pow_split i, Nat.pow_succ, Nat.mul_assoc]
 rw [h1, Nat.mul_left_comm, Nat.mul_div_cancel_left _ (Nat.pow_pos (by omega))]
 generalize i % 32 = j at *
 have h2 : (4294967296 : Nat) = 2 ^ (j + 1) * 2 ^ (31 - j) := by
  rw [show (4294967296 : Nat) = 2 ^ 32 from rfl, ← Nat.pow_add]
  congr 1; omega
 rw [h2, Nat.mod_mul_right_mod, Nat.mul_mod_left]
theorem DivIn.up (h : DivIn A B (i + 1) zs r) (hB : 0 < B) (hi : i / 32 < (dig A).length) (hr : r < B) (hge : B ≤ 2 * r + A / 2 ^ i % 2) :
  DivIn A B i (zs.set (i / 32) (zs.getD (i / 32) 0 ||| 2 ^ (i % 32))) (2 * r + A / 2 ^ i % 2 - B) ∧ zs.getD (i / 32) 0 ||| 2 ^ (i % 32) < 4294967296 := by
 have h1 := h.half
 have h2 := Nat.div_add_mod (A / 2 ^ (i + 1)) B
 rw [← h.rem] at h2
 have hb : A / 2 ^ i % 2 < 2 := Nat.mod_lt _ (by omega)
 have hlt : 2 * r + A / 2 ^ i % 2 - B < B := by omega
 have h3 : A / 2 ^ i = B * (2 * (A / 2 ^ (i + 1) / B) + 1) + (2 * r + A / 2 ^ i % 2 - B) := by
  have h4 : B * (2 * (A / 2 ^ (i + 1) / B) + 1) = 2 * (B * (A / 2 ^ (i + 1) / B)) + B := by rw [Nat.mul_succ, Nat.mul_left_comm]
  omega
 have h5 : A / 2 ^ i / B = 2 * (A / 2 ^ (i + 1) / B) + 1 := by
  have h7 : (B * (2 * (A / 2 ^ (i + 1) / B) + 1) + (2 * r + A / 2 ^ i % 2 - B)) / B = 2 * (A / 2 ^ (i + 1) / B) + 1 := by
   rw [Nat.mul_add_div hB, Nat.div_eq_of_lt hlt, Nat.add_zero]
  rw [← h3] at h7
  exact h7
 have h6 : A / 2 ^ i % B = 2 * r + A / 2 ^ i % 2 - B := by
  have h7 : (B * (2 * (A / 2 ^ (i + 1) / B) + 1) + (2 * r + A / 2 ^ i % 2 - B)) % B = 2 * r + A / 2 ^ i % 2 - B := by rw [Nat.mul_add_mod, Nat.mod_eq_of_lt hlt]
  rw [← h3] at h7
  exact h7
 have hcl := h.clear
 have hor := or_bit hcl
 have hj : i % 32 < 32 := Nat.mod_lt _ (by omega)
 have hd := h.digs (i / 32)
 have hsm : zs.getD (i / 32) 0 ||| 2 ^ (i % 32) < 4294967296 := by
  have := Nat.or_lt_two_pow (x := zs.getD (i / 32) 0) (y := 2 ^ (i % 32)) (n := 32) hd (Nat.pow_lt_pow_right (by omega) hj)
  exact this
 refine ⟨⟨by rw [List.length_set, h.len], h.digs.set _ _ hsm, ?_, h6.symm⟩, hsm⟩
 have hv := val_set (zs := zs) (p := i / 32) (d := zs.getD (i / 32) 0 ||| 2 ^ (i % 32)) (by rw [h.len]; exact hi)
 rw [hor, Nat.mul_add, ← pow_split] at hv
 rw [hor]
 have h8 : val zs = A / 2 ^ (i + 1) / B * 2 ^ (i + 1) := h.quo
 have h9 : A / 2 ^ (i + 1) / B * 2 ^ (i + 1) = 2 * (A / 2 ^ (i + 1) / B) * 2 ^ i := by
  rw [Nat.pow_succ, Nat.mul_comm (2 ^ i) 2, Nat.mul_left_comm, Nat.mul_assoc]
 rw [h5, Nat.succ_mul, ← h9, ← h8]
 omega
end
end Go.Proofs.YthblaeleogdfpaaGreatDoor.Fr
namespace Go.Proofs.YthblaeleogdfpaaGreatDoor.Fr
open Go.RowKit
theorem and_one (n : Nat) (h : n < 4294967296) : bits BinOp.and IntKind.u32 (n : Int) 1 = ((n % 2 : Nat) : Int) := by
 have := u32_and_nat n 1 h (by omega)
 rw [show (1 : Int) = ((1 : Nat) : Int) from rfl, this, Nat.and_one_is_mod]
set_option maxHeartbeats 1000000 in
theorem ref_bit (u : Value) (A i : Nat) (w : World) (hx : Rd32 w u (dig A)) (hi : i / 32 < (dig A).length) (hl : (dig A).length ≤ 1048576) :
  Calls Tryz.prog 273 #[u, .int .i64 (i : Int)] w (Quiet w (.int .u32 ((A / 2 ^ i % 2 : Nat) : Int))) := by
 obtain ⟨a, c, rfl, hc, hm, hd, hr⟩ := hx
 obtain ⟨b, o, rfl, hb, hcell⟩ := hr (by omega)
 have c0 := hcell (i / 32) hi
 have HBT := hid (bit_at A i)
 have hdl := hd (i / 32)
 have hj : i % 32 < 32 := Nat.mod_lt _ (by omega)
 have e1 : (i : Int) / 32 = ((i / 32 : Nat) : Int) := by omega
 have e2 : Int.tdiv (i : Int) 32 = ((i / 32 : Nat) : Int) := by rw [Int.tdiv_eq_ediv_of_nonneg (by omega)]; omega
 have e3 : (i : Int) % 32 = ((i % 32 : Nat) : Int) := by omega
 have e4 : Int.tmod (i : Int) 32 = ((i % 32 : Nat) : Int) := by rw [Int.tmod_eq_emod_of_nonneg (by omega)]; omega
 clear hcell hd hr
 generalize (dig A).length = L at *
 generalize (dig A).getD (i / 32) 0 = x at *
 generalize i / 32 = k at *
 generalize i % 32 = j at *
 unfold maxLen at hm
 go_enter Tryz.func273, Tryz.ntmps273
 go_wp2
 go_ret
 refine ⟨ret_int ?_, 0, rfl⟩
 rw [← HBT.out, show (x : Int) / 2 ^ j = ((x / 2 ^ j : Nat) : Int) from by rw [Int.natCast_ediv, Int.natCast_pow]; rfl, and_one _ (Nat.lt_of_le_of_lt (Nat.div_le_self _ _) hdl)]
theorem Own32.later {w w' : World} {g N : Nat} {zs : List Nat} (h : Own32 w g N zs) (hb : Below w.heap.size w w') : Own32 w' g N zs := by
 obtain ⟨h1, h2, h3, h4⟩ := h
 exact ⟨h1, h2, Nat.lt_of_lt_of_le h3 hb.size, fun i hi => ⟨(hb.cell (p := ⟨g, i, none⟩) h3).trans (h4 i hi).1, (hb.frozen (p := ⟨g, i, none⟩) h3).trans (h4 i hi).2⟩⟩
theorem dig_len_lt {R B : Nat} (h : R < 2 * B) : (dig R).length ≤ (dig B).length + 1 := by
 refine dig_length_le ?_
 have h1 := val_lt (digs_dig B)
 rw [val_dig] at h1
 rw [Nat.pow_succ]
 have : 4294967296 ^ (dig B).length * 2 ≤ 4294967296 ^ (dig B).length * 4294967296 := Nat.mul_le_mul_left _ (by omega)
 omega
def GivesQRr (w : World) (q r : Nat) (e : Ending) (w' : World) : Prop :=
  ∃ a c a' c', e = .returned (.tuple #[.slice a (dig q).length c, .slice a' (dig r).length c']) ∧ Rd32 w' (.slice a (dig q).length c) (dig q) ∧ (∀ R, R < w.heap.size → Off R (.slice a (dig q).length c)) ∧ Below w.heap.size w w'
set_option maxRecDepth 100000 in
set_option maxHeartbeats 4000000 in
theorem ref_div (u v : Value) (A B : Nat) (w : World) (hx : Rd32 w u (dig A)) (hy : Rd32 w v (dig B)) (hB : 0 < B) (hla : (dig A).length ≤ 1048576) (hlb : (dig B).length ≤ 1048576) :
  Calls Tryz.prog 234 #[u, v] w (GivesQRr w (A / B) (A % B)) := by
 have HX := hid hx
 have HY := hid hy
 obtain ⟨a, c, rfl, hc, hm, -, -⟩ := hx
 unfold maxLen at hm
 obtain ⟨i0, hi, hz0, hz1, hz2⟩ := info_parts info_u32
 have HS := hid (DivIn.start A B)
 have HBIT := hid (fun W (hW : Below w.heap.size w W) i (hi : i / 32 < (dig A).length) => ref_bit (.slice a (dig A).length c) A i W (HX.out.kept hW) hi hla)
 have HXY := hid (fun W (hW : Below w.heap.size w W) => HY.out.kept hW)
 generalize hlA : (dig A).length = la at *
 have HLA := hid hlA
 clear hlA hy
 go_enter Tryz.func234, Tryz.ntmps234
 go_wp2_with (at_make; refine wpList_make_full _ rfl _ _ 45 rfl w.heap.size 157 i0 (.int .u32 0) 1 Tryz.underlying45 hi hz0 hz1 _ _ _ _ la rfl rfl (by omega) (by omega) (by rw [hz2]; omega) (by unfold maxLen; omega) (Nat.le_refl _) ?_)
 intro w1 hown hgrow
 have hO := Own32.of_made hown
 have hb1 : Below w.heap.size w w1 := (Below.refl _ _).grown hgrow (Nat.le_refl _) (fun k h => by cases h)
 have HO := hid hO
 have HB1 := hid hb1
 clear hown hgrow hO hb1
 generalize hg : w.heap.size = g at *
 have HG := hid hg
 clear hg
 go_wp2_with fail
 go_loopg [5, 6] (32 * la) (fun N rv iv wr => ∃ (k R : Nat) (zs : List Nat) (ra : Option Addr) (rc : Nat), k = N ∧ k ≤ 32 * la ∧ iv = .int .i64 ((k : Int) - 1) ∧ rv = .slice ra (dig R).length rc ∧ Hid (DivIn A B k zs R ∧ Own32 wr g la zs ∧ Rd32 wr (.slice ra (dig R).length rc) (dig R) ∧ Off g (.slice ra (dig R).length rc) ∧ Below g w wr ∧ R < B))
 case atStart => exact ⟨32 * la, 0, _, none, 0, rfl, Nat.le_refl _, by first | rfl | simp, by rw [dig_zero]; rfl, hid ⟨HS.out, HO.out, by rw [dig_zero]; exact Rd32.nil _, by rw [dig_zero]; exact Off.nil, HB1.out, hB⟩⟩
 case round =>
  obtain ⟨k, R, zs, ra, rc, rfl, hkl, rfl, rfl, HST⟩ := hrel
  by_cases hp : 0 < k
  ·obtain ⟨i, rfl⟩ : ∃ i, k = i + 1 := ⟨k - 1, by omega⟩
   rw [show ((i + 1 : Nat) : Int) - 1 = (i : Int) by omega]
   have hil : i / 32 < la := by omega
   have HGW := HG.out
   have HBW := hid HST.out.2.2.2.2.1
   have HBI := hid (HBIT.out wr HBW.out i hil)
   have hzr : g ≤ wr.heap.size := by have := HBW.out.size; omega
   have hb2 : A / 2 ^ i % 2 < 2 := Nat.mod_lt _ (by omega)
   have HR2 : Hid (2 * R + A / 2 ^ i % 2 < 2 * B) := hid (by have := HST.out.2.2.2.2.2; omega)
   have HDN := hid (fun h => HST.out.1.down hB h)
   have HUP := hid (fun h => HST.out.1.up hB (by rw [HLA.out]; exact hil) HST.out.2.2.2.2.2 h)
   have hrl : (dig R).length ≤ 1048576 := Nat.le_trans (dig_length_mono (Nat.le_of_lt HST.out.2.2.2.2.2)) hlb
   generalize A / 2 ^ i % 2 = bt at *
   have HTW := hid (fun W (hW : Below wr.heap.size wr W) => ref_twice (.slice ra (dig R).length rc) (dig R) bt W (HST.out.2.2.1.kept hW) (by omega) (by omega))
   rw [val_dig] at HTW
   generalize hRl : (dig R).length = rl at *
   go_wp2_with fail
   with_reducible refine HBI.out.mono ?_
   rintro e w2 ⟨rfl, k2, rfl⟩
   go_wp2_with fail
   with_reducible refine (HTW.out _ (below_drewN (Below.refl _ _))).mono ?_
   rintro e w3 ⟨r2, rc2, rfl, hrd3, hof3, hb3⟩
   have HB3 := hid hb3
   have HB23 : Hid (Below wr.heap.size wr w3) := hid ((below_drewN (Below.refl _ _)).trans hb3)
   have HRD3 := hid hrd3
   have HOF3 : Hid (Off g (.slice r2 (dig (2 * R + bt)).length rc2)) := hid (hof3 g (by show g < wr.heap.size; have := HST.out.2.1.2.2.1; exact this))
   have HY3 := hid (HXY.out w3 (HBW.out.trans (HB23.out.mono hzr)))
   have HO3 := hid (HST.out.2.1.later HB23.out)
   have HBW3 := hid (HBW.out.trans (HB23.out.mono hzr))
   have HCM := hid (ref_cmp (.slice r2 (dig (2 * R + bt)).length rc2) v (dig (2 * R + bt)) (dig B) w3 hrd3 HY3.out)
   rw [cmpL_dig] at HCM
   have hz3 := HB23.out.size
   clear hrd3 hof3 hb3 HTW
   generalize 2 * R + bt = R' at *
   go_wp2_with fail
   with_reducible refine HCM.out.mono ?_
   rintro e w4 ⟨rfl, k4, rfl⟩
   by_cases hge : B ≤ R'
   ·have hs0 : 0 ≤ sgn R' B := sgn_nonneg.2 hge
    have hdc : decide ((0 : Int) ≤ sgn R' B) = true := decide_eq_true hs0
    obtain ⟨hup, hdl⟩ := HUP.out hge
    have HUP2 := hid hup
    have hj : i % 32 < 32 := Nat.mod_lt _ (by omega)
    have e1 : (i : Int) / 32 = ((i / 32 : Nat) : Int) := by omega
    have e2 : Int.tdiv (i : Int) 32 = ((i / 32 : Nat) : Int) := by rw [Int.tdiv_eq_ediv_of_nonneg (by omega)]; omega
    have e3 : (i : Int) % 32 = ((i % 32 : Nat) : Int) := by omega
    have e4 : Int.tmod (i : Int) 32 = ((i % 32 : Nat) : Int) := by rw [Int.tmod_eq_emod_of_nonneg (by omega)]; omega
    have HSU := hid (ref_sub (.slice r2 (dig R').length rc2) v (dig R') (dig B) (w3.drewN k4) HRD3.out.drewN HY3.out.drewN (by have := dig_len_lt HR2.out; omega) (by rw [val_dig, val_dig]; exact hge) (dig_length_mono hge))
    rw [val_dig, val_dig] at HSU
    have HSET := hid (fun W (h : Own32 W g la zs) => h.set hil hdl)
    have HDG := hid (HST.out.2.1.2.1 (i / 32))
    clear hup hs0
    go_wp2_with fail
    with_reducible refine HSU.out.mono ?_
    rintro e w5 ⟨r5, rc5, rfl, hrd5, hof5, hb5⟩
    have HO5 := hid (HO3.out.drewN (n := k4) |>.later hb5)
    have hcl := HO5.out.2.2.2 (i / 32) hil
    have c0 : w5.cell? ⟨g, i / 32, none⟩ = some (.int .u32 ((zs.getD (i / 32) 0 : Nat) : Int)) := hcl.1
    have f0 := hcl.2
    have HB5 := hid (HBW3.out.trans ((show Below w3.heap.size w3 w5 from (below_drewN (Below.refl _ _)).trans hb5).mono (by omega)))
    have HRD5 := hid hrd5
    have HOF5 := hid (hof5 g (by show g < w3.heap.size; have := HO3.out.2.2.1; exact this))
    have HZD := hid HDG.out
    clear hcl hrd5 hof5 hb5
    generalize hzd : zs.getD (i / 32) 0 = d at *
    have hdd := HZD.out
    have hi2 : i / 32 < la := hil
    generalize i / 32 = i2 at *
    generalize i % 32 = j at *
    have hbits : bits BinOp.or IntKind.u32 (d : Int) (2 ^ j % 4294967296) = ((d ||| 2 ^ j : Nat) : Int) := by
     have hp : 2 ^ j < 4294967296 := Nat.pow_lt_pow_right (a := 2) (n := 32) (by omega) hj
     have e : ((2 : Int) ^ j % 4294967296) = ((2 ^ j : Nat) : Int) := by
      rw [show ((2 : Int) ^ j) = ((2 ^ j : Nat) : Int) from by rw [Int.natCast_pow]; rfl]
      exact Int.emod_eq_of_lt (Int.natCast_nonneg _) (Int.ofNat_lt.2 hp)
     rw [e, u32_or_nat _ _ hdd hp]
    have HBI2 := hid hbits
    clear hbits
    have HNEW : Hid (DivIn A B i (zs.set i2 (d ||| 2 ^ j)) (R' - B) ∧ Own32 (w5.setCell ⟨g, i2, none⟩ (.int .u32 (bits BinOp.or IntKind.u32 (d : Int) (2 ^ j % 4294967296)))) g la (zs.set i2 (d ||| 2 ^ j)) ∧ Rd32 (w5.setCell ⟨g, i2, none⟩ (.int .u32 (bits BinOp.or IntKind.u32 (d : Int) (2 ^ j % 4294967296)))) (.slice r5 (dig (R' - B)).length rc5) (dig (R' - B)) ∧ Off g (.slice r5 (dig (R' - B)).length rc5) ∧ Below g w (w5.setCell ⟨g, i2, none⟩ (.int .u32 (bits BinOp.or IntKind.u32 (d : Int) (2 ^ j % 4294967296)))) ∧ R' - B < B) := hid (by
     have h6 := HR2.out
     refine ⟨HUP2.out, ?_, HRD5.out.setCell HOF5.out, HOF5.out, HB5.out.setCell (p := ⟨g, i2, none⟩) (Nat.le_refl _) _, by omega⟩
     rw [HBI2.out]
     exact HSET.out w5 HO5.out)
    go_wp2_with fail
    go_roundg i
    case rel => exact ⟨i, R' - B, zs.set i2 (d ||| 2 ^ j), r5, rc5, rfl, by omega, rfl, rfl, HNEW⟩
    case measure => omega
   ·have hs0 : ¬ 0 ≤ sgn R' B := fun h => hge (sgn_nonneg.1 h)
    have hdc : decide ((0 : Int) ≤ sgn R' B) = false := decide_eq_false hs0
    have HD2 := hid (HDN.out (by omega))
    clear hs0
    go_wp2_with fail
    go_roundg i
    case rel => exact ⟨i, R', zs, r2, rc2, rfl, by omega, rfl, rfl, hid ⟨HD2.out, HO3.out.drewN, HRD3.out.drewN, HOF3.out, below_drewN HBW3.out, by omega⟩⟩
    case measure => omega
  ·obtain rfl : k = 0 := by omega
   rw [show ((0 : Nat) : Int) - 1 = -1 by rfl]
   have HTR := hid (ref_trim (.slice (some ⟨g, 0, none⟩) la la) zs wr (HST.out.2.1.rd (Nat.le_refl _) (by unfold maxLen; omega)))
   have HVZ : Hid (val zs = A / B) := hid (by have h := HST.out.1.quo; rw [h]; simp)
   have HRZ : Hid (R = A % B) := hid (by have h := HST.out.1.rem; rw [h]; simp)
   go_wp2_with fail
   with_reducible refine HTR.out.mono ?_
   rintro e w2 ⟨q1, q2, rfl, hq3, hq4, k2, rfl⟩
   have HQ3 := hid (hq3 _ ((HST.out.2.1.rd (Nat.le_refl _) (by unfold maxLen; omega) : Rd32 wr (.slice (some ⟨g, 0, none⟩) la la) zs).drewN (n := k2)))
   have HQ4 := hid hq4
   rw [HVZ.out] at HQ3 HQ4 ⊢
   rw [HRZ.out]
   clear hq3 hq4
   have HBF := hid (below_drewN (n := k2) HST.out.2.2.2.2.1)
   go_wp2
   go_ret2
   refine ⟨q1, q2, ra, rc, rfl, HQ3.out, fun R hR => HQ4.out R (Off.of_lt (by have := HG.out; omega)), ?_⟩
   have h7 := HBF.out
   rw [← HG.out] at h7
   exact h7
end Go.Proofs.YthblaeleogdfpaaGreatDoor.Fr
namespace Go.Proofs.YthblaeleogdfpaaGreatDoor.Fr
open Go.RowKit
set_option maxRecDepth 100000 in
set_option maxHeartbeats 4000000 in
theorem ref_lowest (s1 : Bool) (a a' : Option Addr) (c c' : Nat) (n d : Nat) (w : World) (hx : Rd32 w (.slice a (dig n).length c) (dig n)) (hy : Rd32 w (.slice a' (dig d).length c') (dig d)) (hl : (dig n).length ≤ 1048576) (hl2 : (dig d).length ≤ 1048576) (hd : 0 < d) :
  Calls Tryz.prog 174 #[.agg #[.bool s1, .slice a (dig n).length c], .agg #[.bool false, .slice a' (dig d).length c']] w (GivesF w (s1 && decide (0 < n / Nat.gcd n d)) (n / Nat.gcd n d) (d / Nat.gcd n d)) := by
 have HX := hid hx
 have HY := hid hy
 have HG := hid (fun (hn : 0 < n) W (hW : Below w.heap.size w W) => ref_gcd (.slice a (dig n).length c) (.slice a' (dig d).length c') n d W (hx.kept hW) (hy.kept hW) hn hd (by omega) (by omega))
 have hg0 : 0 < Nat.gcd n d := Nat.gcd_pos_of_pos_right _ hd
 have HD1 := hid (fun W gv (hg : Rd32 W gv (dig (Nat.gcd n d))) (hW : Below w.heap.size w W) => ref_div (.slice a (dig n).length c) gv n (Nat.gcd n d) W (hx.kept hW) hg hg0 hl (Nat.le_trans (dig_length_mono (Nat.le_of_dvd hd (Nat.gcd_dvd_right n d))) hl2))
 have HD2 := hid (fun W gv (hg : Rd32 W gv (dig (Nat.gcd n d))) (hW : Below w.heap.size w W) => ref_div (.slice a' (dig d).length c') gv d (Nat.gcd n d) W (hy.kept hW) hg hg0 hl2 (Nat.le_trans (dig_length_mono (Nat.le_of_dvd hd (Nat.gcd_dvd_right n d))) hl2))
 have HZ : Hid (n = 0 → n / Nat.gcd n d = 0 ∧ d / Nat.gcd n d = 1) := hid (fun h => by rw [h, Nat.gcd_zero_left]; exact ⟨Nat.zero_div _, Nat.div_self hd⟩)
 have HNZ : Hid ((dig n).length = 0 ↔ n = 0) := hid dig_length_zero
 have hB0 := (((Below.refl w.heap.size w).alloc (Nat.le_refl _) (.cells #[.bool s1, .slice a (dig n).length c] 47)).alloc (by simp) (.cells #[.bool false, .slice a' (dig d).length c'] 47)).alloc (by simp; omega) (.cells #[.bool false, .slice none 0 0, .bool false, .slice none 0 0] 49)
 have HB0 := hid hB0
 have HX1 := hid (((BoxN.new w #[.bool s1, .slice a (dig n).length c] 47).alloc (.cells #[.bool false, .slice a' (dig d).length c'] 47)).alloc (.cells #[.bool false, .slice none 0 0, .bool false, .slice none 0 0] 49))
 have hx2 := (BoxN.new (w.alloc (.cells #[.bool s1, .slice a (dig n).length c] 47)) #[.bool false, .slice a' (dig d).length c'] 47).alloc (.cells #[.bool false, .slice none 0 0, .bool false, .slice none 0 0] 49)
 rw [World.size_alloc] at hx2
 have HX2 := hid hx2
 have hx3 := BoxN.new ((w.alloc (.cells #[.bool s1, .slice a (dig n).length c] 47)).alloc (.cells #[.bool false, .slice a' (dig d).length c'] 47)) #[.bool false, .slice none 0 0, .bool false, .slice none 0 0] 49
 rw [World.size_alloc, World.size_alloc] at hx3
 have HX3 := hid hx3
 have hz : (((w.alloc (.cells #[.bool s1, .slice a (dig n).length c] 47)).alloc (.cells #[.bool false, .slice a' (dig d).length c'] 47)).alloc (.cells #[.bool false, .slice none 0 0, .bool false, .slice none 0 0] 49)).heap.size = w.heap.size + 3 := by simp
 have c0 := HX1.out.cell 0 rfl
 have c1 := HX1.out.cell 1 rfl
 have d0 := HX2.out.cell 0 rfl
 have d1 := HX2.out.cell 1 rfl
 clear hB0 hx2 hx3 hx hy
 generalize n / Nat.gcd n d = p at *
 generalize d / Nat.gcd n d = q at *
 generalize Nat.gcd n d = g at *
 generalize hln : (dig n).length = ln at *
 have HLN := hid hln
 clear hln
 generalize hld : (dig d).length = ld at *
 have HLD := hid hld
 clear hld
 by_cases hn0 : n = 0
 ·obtain ⟨hp, hq⟩ := HZ.out hn0
  subst hp
  subst hq
  obtain rfl : ln = 0 := HNZ.out.2 hn0
  go_enter Tryz.func174, Tryz.ntmps174
  go_wp2_with fail
  with_reducible refine (ref_FromInt 1 _ (by omega) (by omega)).mono ?_
  clear c0 c1 d0 d1
  generalize (((w.alloc (.cells #[.bool s1, .slice a 0 c] 47)).alloc (.cells #[.bool false, .slice a' ld c'] 47)).alloc (.cells #[.bool false, .slice none 0 0, .bool false, .slice none 0 0] 49)) = W0 at *
  rintro e w1 ⟨a1, c1, rfl, hr1, ho1, hb1⟩
  rw [show Int.natAbs 1 = 1 from rfl] at hr1 ho1 ⊢
  rw [show (decide ((1 : Int) < 0) && decide (0 < 1)) = false from rfl]
  have HX31 := hid (HX3.out.below hb1 HX3.out.lt)
  have hrl := HX3.out.lt
  have HR1 := hid hr1
  have HO1 := hid (fun R (hR : R < W0.heap.size) => ho1 R hR (fun u hu => by simp at hu))
  have HB1 := hid (HB0.out.trans (hb1.mono (by omega)))
  have m0 := HX31.out.cell 0 rfl
  have m1 := HX31.out.cell 1 rfl
  have m2 := HX31.out.cell 2 rfl
  have m3 := HX31.out.cell 3 rfl
  have f0 := HX31.out.frozen 0
  have f1 := HX31.out.frozen 1
  have f2 := HX31.out.frozen 2
  have f3 := HX31.out.frozen 3
  clear hr1 ho1 hb1
  go_wp2
  refine bodyPost_ret (by simp [results, Tryz.results174, go_sem, m0, m1, m2, m3]; rfl) rfl ?_
  have hoff := HO1.out (w.heap.size + 2) hrl
  refine ⟨none, 0, a1, c1, by simp [dig_zero], ⟨?_, ?_, fun R _ => ?_, fun R hR => HO1.out R (by omega)⟩, ?_⟩
  ·rw [dig_zero]; exact Rd32.nil _
  ·exact (((HR1.out.setCell hoff).setCell hoff).setCell hoff).setCell hoff
  ·rw [dig_zero]; exact Off.nil
  ·have h1 := HB1.out
   exact (((h1.setCell (p := ⟨w.heap.size + 2, 0, none⟩) (by show w.heap.size ≤ w.heap.size + 2; omega) _).setCell (p := ⟨w.heap.size + 2, 1, none⟩) (by show w.heap.size ≤ w.heap.size + 2; omega) _).setCell (p := ⟨w.heap.size + 2, 2, none⟩) (by show w.heap.size ≤ w.heap.size + 2; omega) _).setCell (p := ⟨w.heap.size + 2, 3, none⟩) (by show w.heap.size ≤ w.heap.size + 2; omega) _
 ·have hl0 : ¬ ln = 0 := fun h => hn0 (HNZ.out.1 h)
  have hq1 : ((ln : Int) == 0) = false := by simp; omega
  have hq2 : decide ((ln : Int) = 0) = false := decide_eq_false (by omega)
  go_enter Tryz.func174, Tryz.ntmps174
  go_wp2_with fail
  with_reducible refine (HG.out (by omega) _ HB0.out).mono ?_
  clear c0 c1 d0 d1
  generalize (((w.alloc (.cells #[.bool s1, .slice a ln c] 47)).alloc (.cells #[.bool false, .slice a' ld c'] 47)).alloc (.cells #[.bool false, .slice none 0 0, .bool false, .slice none 0 0] 49)) = W0 at *
  rintro e w1 ⟨gv, rfl, hg1, hb1⟩
  have HRG := hid hg1.rd
  have HX11 := hid (HX1.out.below hb1 HX1.out.lt)
  have HX21 := hid (HX2.out.below hb1 HX2.out.lt)
  have HX31 := hid (HX3.out.below hb1 HX3.out.lt)
  have HB1 := hid (HB0.out.trans (hb1.mono (by omega)))
  have hz1 := hb1.size
  have c0 := HX11.out.cell 0 rfl
  have c1 := HX11.out.cell 1 rfl
  clear hg1 hb1
  obtain ⟨gb, gn, gc, rfl⟩ : ∃ gb gn gc, gv = .slice gb gn gc := by
   obtain ⟨a, c, e, -⟩ := HRG.out
   exact ⟨a, _, c, e⟩
  go_wp2_with fail
  with_reducible refine (HD1.out _ _ HRG.out HB1.out).mono ?_
  rintro e w2 ⟨qa, qc, r1, rc1, rfl, hq2, ho2, hb2⟩
  have HQ2 := hid hq2
  have HO2 := hid ho2
  have HB2 := hid (HB1.out.trans (hb2.mono HB1.out.size))
  have HX12 := hid (HX11.out.below hb2 HX11.out.lt)
  have HX22 := hid (HX21.out.below hb2 HX21.out.lt)
  have HX32 := hid (HX31.out.below hb2 HX31.out.lt)
  have HRG2 := hid (HRG.out.kept hb2)
  have d0 := HX22.out.cell 0 rfl
  have d1 := HX22.out.cell 1 rfl
  have hz2 := hb2.size
  clear hq2 ho2 hb2 c0 c1
  go_wp2_with fail
  with_reducible refine (HD2.out _ _ HRG2.out HB2.out).mono ?_
  rintro e w3 ⟨ea, ec, r2, rc2, rfl, hq3, ho3, hb3⟩
  have HQ3 := hid (HQ2.out.kept hb3)
  have HE3 := hid hq3
  have HO3 := hid ho3
  have HB3 := hid (HB2.out.trans (hb3.mono HB2.out.size))
  have HX13 := hid (HX12.out.below hb3 HX12.out.lt)
  have HX23 := hid (HX22.out.below hb3 HX22.out.lt)
  have HX33 := hid (HX32.out.below hb3 HX32.out.lt)
  have c0 := HX13.out.cell 0 rfl
  have d0' := HX23.out.cell 0 rfl
  have hz3 := hb3.size
  clear hq3 ho3 hb3 d0 d1
  go_wp2_with fail
  with_reducible refine (ref_big _ _ (dig p) _ HQ3.out).mono ?_
  rintro e w4 ⟨x4, y4, rfl, hr4, ho4, hb4⟩
  rw [val_dig] at hr4 ho4 ⊢
  have HR4 := hid hr4
  have HO4 := hid ho4
  have HE4 := hid (HE3.out.kept hb4)
  have HB4 := hid (HB3.out.trans (hb4.mono HB3.out.size))
  have HX34 := hid (HX33.out.below hb4 HX33.out.lt)
  have hz4 := hb4.size
  clear hr4 ho4 hb4 c0 d0'
  go_wp2_with fail
  with_reducible refine (ref_big _ _ (dig q) _ HE4.out).mono ?_
  rintro e w5 ⟨x5, y5, rfl, hr5, ho5, hb5⟩
  rw [val_dig] at hr5 ho5 ⊢
  have HR5 := hid hr5
  have HO5 := hid ho5
  have HR45 := hid (HR4.out.kept hb5)
  have HB5 := hid (HB4.out.trans (hb5.mono HB4.out.size))
  have HX35 := hid (HX34.out.below hb5 HX34.out.lt)
  have hz5 := hb5.size
  have m0 := HX35.out.cell 0 rfl
  have m1 := HX35.out.cell 1 rfl
  have m2 := HX35.out.cell 2 rfl
  have m3 := HX35.out.cell 3 rfl
  have f0 := HX35.out.frozen 0
  have f1 := HX35.out.frozen 1
  have f2 := HX35.out.frozen 2
  have f3 := HX35.out.frozen 3
  have hrl := HX31.out.lt
  have HOA : Hid (∀ R, R < w1.heap.size → Off R (.slice x4 (dig p).length y4)) := hid (fun R hR => HO4.out R (by omega) (fun u hu => by
   simp at hu
   rw [hu]
   exact HO2.out R hR))
  have HOB : Hid (∀ R, R < w1.heap.size → Off R (.slice x5 (dig q).length y5)) := hid (fun R hR => HO5.out R (by omega) (fun u hu => by
   simp at hu
   rw [hu]
   exact HO3.out R (by omega)))
  clear hr5 ho5 hb5
  go_wp2
  refine bodyPost_ret (by simp [results, Tryz.results174, go_sem, m0, m1, m2, m3]; rfl) rfl ?_
  have hoA := HOA.out (w.heap.size + 2) hrl
  have hoB := HOB.out (w.heap.size + 2) hrl
  have hw1 := HB1.out.size
  refine ⟨x4, y4, x5, y5, by simp, ⟨?_, ?_, fun R hR => HOA.out R (by omega), fun R hR => HOB.out R (by omega)⟩, ?_⟩
  ·exact (((HR45.out.setCell hoA).setCell hoA).setCell hoA).setCell hoA
  ·exact (((HR5.out.setCell hoB).setCell hoB).setCell hoB).setCell hoB
  ·have h1 := HB5.out
   exact (((h1.setCell (p := ⟨w.heap.size + 2, 0, none⟩) (by show w.heap.size ≤ w.heap.size + 2; omega) _).setCell (p := ⟨w.heap.size + 2, 1, none⟩) (by show w.heap.size ≤ w.heap.size + 2; omega) _).setCell (p := ⟨w.heap.size + 2, 2, none⟩) (by show w.heap.size ≤ w.heap.size + 2; omega) _).setCell (p := ⟨w.heap.size + 2, 3, none⟩) (by show w.heap.size ≤ w.heap.size + 2; omega) _
set_option maxRecDepth 100000 in
set_option maxHeartbeats 4000000 in
theorem ref_Make (s1 : Bool) (a a' : Option Addr) (c c' : Nat) (n d : Nat) (w : World) (hx : Rd32 w (.slice a (dig n).length c) (dig n)) (hy : Rd32 w (.slice a' (dig d).length c') (dig d)) (hok : okBig s1 (dig n) = true) (hok2 : okBig false (dig d) = true) (hl : (dig n).length ≤ 256) (hl2 : (dig d).length ≤ 256) (hd : 0 < d) :
  Calls Tryz.prog 123 #[.agg #[.bool s1, .slice a (dig n).length c], .agg #[.bool false, .slice a' (dig d).length c']] w (GivesFE w (s1 && decide (0 < n / Nat.gcd n d)) (n / Nat.gcd n d) (d / Nat.gcd n d) (.int .i64 0)) := by
 have HV1 := hid (fun W (hW : Below w.heap.size w W) => ref_ValidBig (.agg #[.bool s1, .slice a (dig n).length c]) s1 (dig n) W ⟨a, c, rfl, hx.kept hW⟩)
 have HV2 := hid (fun W (hW : Below w.heap.size w W) => ref_ValidBig (.agg #[.bool false, .slice a' (dig d).length c']) false (dig d) W ⟨a', c', rfl, hy.kept hW⟩)
 rw [hok] at HV1
 rw [hok2] at HV2
 have HLO := hid (fun W (hW : Below w.heap.size w W) => ref_lowest s1 a a' c c' n d W (hx.kept hW) (hy.kept hW) (by omega) (by omega) hd)
 have hdl : 0 < (dig d).length := dig_length_pos.2 hd
 have hB0 := (((Below.refl w.heap.size w).alloc (Nat.le_refl _) (.cells #[.bool s1, .slice a (dig n).length c] 47)).alloc (by simp) (.cells #[.bool false, .slice a' (dig d).length c'] 47)).alloc (by simp; omega) (.cells #[.bool false, .slice none 0 0, .bool false, .slice none 0 0] 49)
 have HB0 := hid hB0
 have HX1 := hid (((BoxN.new w #[.bool s1, .slice a (dig n).length c] 47).alloc (.cells #[.bool false, .slice a' (dig d).length c'] 47)).alloc (.cells #[.bool false, .slice none 0 0, .bool false, .slice none 0 0] 49))
 have hx2 := (BoxN.new (w.alloc (.cells #[.bool s1, .slice a (dig n).length c] 47)) #[.bool false, .slice a' (dig d).length c'] 47).alloc (.cells #[.bool false, .slice none 0 0, .bool false, .slice none 0 0] 49)
 rw [World.size_alloc] at hx2
 have HX2 := hid hx2
 have hx3 := BoxN.new ((w.alloc (.cells #[.bool s1, .slice a (dig n).length c] 47)).alloc (.cells #[.bool false, .slice a' (dig d).length c'] 47)) #[.bool false, .slice none 0 0, .bool false, .slice none 0 0] 49
 rw [World.size_alloc, World.size_alloc] at hx3
 have HX3 := hid hx3
 have hz : (((w.alloc (.cells #[.bool s1, .slice a (dig n).length c] 47)).alloc (.cells #[.bool false, .slice a' (dig d).length c'] 47)).alloc (.cells #[.bool false, .slice none 0 0, .bool false, .slice none 0 0] 49)).heap.size = w.heap.size + 3 := by simp
 have c0 := HX1.out.cell 0 rfl
 have c1 := HX1.out.cell 1 rfl
 clear hB0 hx2 hx3 hx hy hok hok2
 generalize (s1 && decide (0 < n / Nat.gcd n d)) = sg at *
 generalize n / Nat.gcd n d = p at *
 generalize d / Nat.gcd n d = q at *
 generalize (dig n).length = ln at *
 generalize (dig d).length = ld at *
 have hq1 : ((ld : Int) == 0) = false := by simp; omega
 have hq2 : decide ((ld : Int) = 0) = false := decide_eq_false (by omega)
 go_enter Tryz.func123, Tryz.ntmps123
 go_wp2_with fail
 with_reducible refine (HV1.out _ HB0.out).mono ?_
 clear c0 c1
 generalize (((w.alloc (.cells #[.bool s1, .slice a ln c] 47)).alloc (.cells #[.bool false, .slice a' ld c'] 47)).alloc (.cells #[.bool false, .slice none 0 0, .bool false, .slice none 0 0] 49)) = W0 at *
 rintro e w1 ⟨rfl, hb1⟩
 have HB1 := hid (HB0.out.trans (hb1.mono (by omega)))
 have HX11 := hid (HX1.out.below hb1 HX1.out.lt)
 have HX21 := hid (HX2.out.below hb1 HX2.out.lt)
 have HX31 := hid (HX3.out.below hb1 HX3.out.lt)
 have d0 := HX21.out.cell 0 rfl
 have d1 := HX21.out.cell 1 rfl
 have hz1 := hb1.size
 clear hb1
 go_wp2_with fail
 with_reducible refine (HV2.out _ HB1.out).mono ?_
 rintro e w2 ⟨rfl, hb2⟩
 have HB2 := hid (HB1.out.trans (hb2.mono (by omega)))
 have HX12 := hid (HX11.out.below hb2 HX11.out.lt)
 have HX22 := hid (HX21.out.below hb2 HX21.out.lt)
 have HX32 := hid (HX31.out.below hb2 HX31.out.lt)
 have hz2 := hb2.size
 clear hb2 d0 d1
 have c0 := HX12.out.cell 0 rfl
 have c1 := HX12.out.cell 1 rfl
 have d0 := HX22.out.cell 0 rfl
 have d1 := HX22.out.cell 1 rfl
 go_wp2_with fail
 with_reducible refine (HLO.out _ HB2.out).mono ?_
 rintro e w3 ⟨x4, y4, x5, y5, rfl, hN, hb3⟩
 have HN := hid hN
 have HB3 := hid (HB2.out.trans (hb3.mono (by omega)))
 have HX33 := hid (HX32.out.below hb3 HX32.out.lt)
 have hrl := HX32.out.lt
 have m0 := HX33.out.cell 0 rfl
 have m1 := HX33.out.cell 1 rfl
 have m2 := HX33.out.cell 2 rfl
 have m3 := HX33.out.cell 3 rfl
 have f0 := HX33.out.frozen 0
 have f1 := HX33.out.frozen 1
 have f2 := HX33.out.frozen 2
 have f3 := HX33.out.frozen 3
 clear hN hb3 c0 c1 d0 d1
 go_wp2
 refine bodyPost_ret (by simp [results, Tryz.results123, go_sem, m0, m1, m2, m3]; rfl) rfl ?_
 refine ⟨x4, y4, x5, y5, rfl, ((((HN.out.setCell hrl).setCell hrl).setCell hrl).setCell hrl).mono (by omega), ?_⟩
 have h1 := HB3.out
 exact (((h1.setCell (p := ⟨w.heap.size + 2, 0, none⟩) (by show w.heap.size ≤ w.heap.size + 2; omega) _).setCell (p := ⟨w.heap.size + 2, 1, none⟩) (by show w.heap.size ≤ w.heap.size + 2; omega) _).setCell (p := ⟨w.heap.size + 2, 2, none⟩) (by show w.heap.size ≤ w.heap.size + 2; omega) _).setCell (p := ⟨w.heap.size + 2, 3, none⟩) (by show w.heap.size ≤ w.heap.size + 2; omega) _
set_option maxRecDepth 100000 in
set_option maxHeartbeats 4000000 in
theorem ref_Of (n d : Nat) (w : World) (hn : n < 9223372036854775808) (hd : 0 < d) (hd2 : d < 9223372036854775808) :
  Calls Tryz.prog 73 #[.int .i64 (n : Int), .int .i64 (d : Int)] w (GivesFE w false (n / Nat.gcd n d) (d / Nat.gcd n d) (.int .i64 0)) := by
 have hl1 := dig_length_64 (n := n) (by omega)
 have hl2 := dig_length_64 (n := d) (by omega)
 have HM := hid (fun W a a' c c' hx hy => ref_Make false a a' c c' n d W hx hy (okBig_false n (by omega)) (okBig_false d (by omega)) (by omega) (by omega) hd)
 simp only [Bool.false_and] at HM
 have HF1 := hid (fun W => ref_FromInt (n : Int) W (by omega) (by omega))
 have HF2 := hid (fun W => ref_FromInt (d : Int) W (by omega) (by omega))
 rw [show decide ((n : Int) < 0) = false from decide_eq_false (by omega), Int.natAbs_natCast] at HF1
 rw [show decide ((d : Int) < 0) = false from decide_eq_false (by omega), Int.natAbs_natCast] at HF2
 have HX3 := hid (BoxN.new w #[.bool false, .slice none 0 0, .bool false, .slice none 0 0] 49)
 have HB0 := hid ((Below.refl w.heap.size w).alloc (Nat.le_refl _) (.cells #[.bool false, .slice none 0 0, .bool false, .slice none 0 0] 49))
 have hz : (w.alloc (.cells #[.bool false, .slice none 0 0, .bool false, .slice none 0 0] 49)).heap.size = w.heap.size + 1 := by simp
 generalize n / Nat.gcd n d = p at *
 generalize d / Nat.gcd n d = q at *
 go_enter Tryz.func73, Tryz.ntmps73
 go_wp2_with fail
 with_reducible refine (HF1.out _).mono ?_
 generalize w.alloc (.cells #[.bool false, .slice none 0 0, .bool false, .slice none 0 0] 49) = W0 at *
 rintro e w1 ⟨a1, c1, rfl, hr1, -, hb1⟩
 have HR1 := hid hr1
 have HB1 := hid (HB0.out.trans (hb1.mono (by omega)))
 have HX31 := hid (HX3.out.below hb1 HX3.out.lt)
 have hz1 := hb1.size
 clear hr1 hb1
 rw [Bool.false_and]
 go_wp2_with fail
 with_reducible refine (HF2.out _).mono ?_
 rintro e w2 ⟨a2, c2, rfl, hr2, -, hb2⟩
 have HR2 := hid hr2
 have HR12 := hid (HR1.out.kept hb2)
 have HB2 := hid (HB1.out.trans (hb2.mono (by omega)))
 have HX32 := hid (HX31.out.below hb2 HX31.out.lt)
 have hz2 := hb2.size
 clear hr2 hb2
 rw [Bool.false_and]
 go_wp2_with fail
 with_reducible refine (HM.out _ _ _ _ _ HR12.out HR2.out).mono ?_
 rintro e w3 ⟨x4, y4, x5, y5, rfl, hN, hb3⟩
 have HN := hid hN
 have HB3 := hid (HB2.out.trans (hb3.mono (by omega)))
 have HX33 := hid (HX32.out.below hb3 HX32.out.lt)
 have hrl := HX32.out.lt
 have m0 := HX33.out.cell 0 rfl
 have m1 := HX33.out.cell 1 rfl
 have m2 := HX33.out.cell 2 rfl
 have m3 := HX33.out.cell 3 rfl
 have f0 := HX33.out.frozen 0
 have f1 := HX33.out.frozen 1
 have f2 := HX33.out.frozen 2
 have f3 := HX33.out.frozen 3
 clear hN hb3
 go_wp2
 refine bodyPost_ret (by simp [results, Tryz.results73, go_sem, m0, m1, m2, m3]; rfl) rfl ?_
 refine ⟨x4, y4, x5, y5, rfl, ((((HN.out.setCell hrl).setCell hrl).setCell hrl).setCell hrl).mono (by omega), ?_⟩
 have h1 := HB3.out
 exact (((h1.setCell (p := ⟨w.heap.size, 0, none⟩) (Nat.le_refl _) _).setCell (p := ⟨w.heap.size, 1, none⟩) (Nat.le_refl _) _).setCell (p := ⟨w.heap.size, 2, none⟩) (Nat.le_refl _) _).setCell (p := ⟨w.heap.size, 3, none⟩) (Nat.le_refl _) _
end Go.Proofs.YthblaeleogdfpaaGreatDoor.Fr
