/- Contracts of package fraction: short, Clone, over (by one digit), common (of one digit). Contracts of package fraction: FromInt, bigs, reduced, Make, Of. Contracts of package fraction: reduced, Make, Of, of numbers of one digit. -/
import Derived.Test.YthblaeleogdfpaaGreatDoorCToak
set_option linter.unusedVariables false
set_option linter.unusedSimpArgs false
namespace Go.Proofs.YthblaeleogdfpaaGreatDoor.Fr
open Go.RowKit
def GivesQR (w : World) (q r : Nat) (e : Ending) (w' : World) : Prop :=
  ∃ a c, e = .returned (.tuple #[.slice a (dig q).length c, .int .u32 (r : Int)]) ∧ Rd32 w' (.slice a (dig q).length c) (dig q) ∧ (∀ R, R < w.heap.size → Off R (.slice a (dig q).length c)) ∧ Below w.heap.size w w'
set_option maxRecDepth 100000 in
set_option maxHeartbeats 2000000 in
theorem frac_short (u : Value) (xs : List Nat) (d : Nat) (w : World) (hx : Rd32 w u xs) (hlx : xs.length ≤ 1073741824) (hd : 0 < d) (hd2 : d < 4294967296) :
  Calls Tryz.prog 275 #[u, .int .u32 (d : Int)] w (GivesQR w (val xs / d) (val xs % d)) := by
 obtain ⟨a, c, rfl, hc, hm, hxr, hxc⟩ := hx
 unfold maxLen at hm
 obtain ⟨i0, hi, hz0, hz1, hz2⟩ := info_parts info_u32
 obtain ⟨n, hn⟩ : ∃ n, n = xs.length := ⟨_, rfl⟩
 rw [← hn] at hc hxc hlx ⊢
 have HN := hid hn
 have HX := hid hxr
 have HXC := hid hxc
 clear hn hxr hxc
 go_enter Tryz.func275, Tryz.ntmps275
 go_wp2_with (at_make; refine wpList_make_full _ rfl _ _ 210 rfl w.heap.size 157 i0 (.int .u32 0) 1 Tryz.underlying210 hi hz0 hz1 _ _ _ _ n rfl rfl (by omega) (by omega) (by rw [hz2]; omega) (by unfold maxLen; omega) (Nat.le_refl _) ?_)
 intro w1 hown hgrow
 have hO := Own32.of_made hown
 have hb1 : Below w.heap.size w w1 := (Below.refl _ _).grown hgrow (Nat.le_refl _) (fun k h => by cases h)
 have HO := hid hO
 have HB1 := hid hb1
 clear hown hgrow hO hb1
 generalize hg : w.heap.size = g at *
 have HG := hid hg
 clear hg
 go_wp2
 go_loopg [7, 8] n (fun N rv i wr => ∃ k r : Nat, k = N ∧ k ≤ n ∧ i = .int .i64 ((k : Int) - 1) ∧ rv = .int .u32 r ∧ r < d ∧ ∃ zs, Own32 wr g n zs ∧ val (zs.drop k) = val (xs.drop k) / d ∧ r = val (xs.drop k) % d ∧ Below g w wr)
 case atStart => exact ⟨n, 0, rfl, Nat.le_refl _, rfl, rfl, hd, _, HO.out, by rw [List.drop_eq_nil_of_le (by simp), List.drop_eq_nil_of_le (by have := HN.out; omega)]; simp [val], by rw [List.drop_eq_nil_of_le (by have := HN.out; omega)]; simp [val], HB1.out⟩
 case round =>
  clear HB1 HO
  obtain ⟨k, r, rfl, hk, rfl, rfl, hr, zs, hzo, hzv, hzr, hbl⟩ := hrel
  have HO := hid hzo
  have HV := hid hzv
  have HR := hid hzr
  have HB := hid hbl
  clear hzo hzv hzr hbl
  rcases k with _ | k
  ·have hV : val zs = val xs / d := by have := HV.out; simpa using this
   have hR : r = val xs % d := by have := HR.out; simpa using this
   have HF := hid hV
   have HRR := hid hR
   have hgl := HG.out
   clear hV hR
   go_wp2_with fail
   refine (frac_trimmed _ _ _ (HO.out.rd (Nat.le_refl _) (by unfold maxLen; omega))).mono ?_
   rintro e w' ⟨a2, c2, rfl, hv2, ho2, k2, rfl⟩
   rw [HF.out] at hv2 ho2
   rw [HF.out]
   have HV2 := hid (hv2 _ (HO.out.rd (Nat.le_refl _) (by unfold maxLen; omega)))
   have HO2 := hid ho2
   clear hv2 ho2
   go_wp2
   go_ret2
   exact ⟨_, _, by rw [HRR.out]; rfl, HV2.out, fun R hR => HO2.out R (Off.of_lt (by omega)), by rw [hgl]; exact below_drewN HB.out⟩
  ·obtain ⟨b, o, rfl, hb, hcell⟩ := HXC.out (by omega)
   have hbg : b < g := by have := HG.out; omega
   have hcx := (HB.out.cell (p := ⟨b, o + k, none⟩) hbg).trans (hcell k (by omega))
   have hxk := HX.out k
   obtain ⟨hcz, hfz⟩ := HO.out.2.2.2 k (by omega)
   have hst := short_step hd (show k < zs.length by rw [HO.out.1]; omega) (show k < xs.length by have := HN.out; omega) HV.out HR.out
   have e1 : ((k + 1 : Nat) : Int) - 1 = (k : Int) := by omega
   rw [e1]
   have hdv := Div32_of r (xs.getD k 0) d
   have hq : (r * 4294967296 + xs.getD k 0) / d < 4294967296 := by
    rw [Nat.div_lt_iff_lt_mul (by omega)]
    have : (r + 1) * 4294967296 ≤ d * 4294967296 := Nat.mul_le_mul_right _ (by omega)
    omega
   have hr' : (r * 4294967296 + xs.getD k 0) % d < d := Nat.mod_lt _ (by omega)
   have HDV := hid hdv
   have HST := hid hst
   clear hcell hdv hst
   generalize (r * 4294967296 + xs.getD k 0) / d = q at *
   generalize (r * 4294967296 + xs.getD k 0) % d = r' at *
   generalize xs.getD k 0 = x at *
   go_wp2_with fail
   refine (HDV.out _ hr hxk hd2).mono ?_
   rintro e w2 ⟨rfl, k2, rfl⟩
   go_wp2
   have HO2 := hid ((HO.out.drewN (n := k2)).set (show k < n by omega) hq)
   go_roundg k
   case measure => omega
   case rel => exact ⟨k, r', rfl, by omega, by go_num, rfl, hr', zs.set k q, HO2.out, HST.out.1, HST.out.2, (below_drewN HB.out).setCell (Nat.le_refl _) _⟩
set_option maxHeartbeats 1000000 in
theorem frac_Clone (u : Value) (n : Nat) (w : World) (hx : Rd32 w u (dig n)) (hl : (dig n).length ≤ 1073741824) :
  Calls Tryz.prog 274 #[u] w (GivesD w n) := by
 obtain ⟨i0, hi, hz0, hz1, hz2⟩ := info_parts info_u32
 have hx' := hx
 obtain ⟨a, c, rfl, _⟩ := hx
 have HX := hid hx'
 have hsrc := (hx'.alloc (o := .cells #[] 157)).src
 have HS := hid hsrc
 have HD := hid (digs_dig n)
 have hown0 : (w.alloc (.cells #[] 157)).ownsRow w.heap.size 157 1 (.slice (some ⟨w.heap.size, 0, none⟩) 0 0) 0 [] := World.ownsRow_made w #[] 0 (Nat.le_refl _) (Nat.zero_le _) rfl
 have HOWN := hid hown0
 clear hsrc hx' hown0
 generalize hL : (dig n).length = L at *
 have HLL := hid hL
 clear hL
 cases a with
 | none =>
  have h0 : L = 0 := by
   rcases Nat.eq_zero_or_pos L with h | h
   ·exact h
   ·obtain ⟨ad, h1, _⟩ := HS.out.2 h; cases h1
  subst h0
  have hn : n = 0 := dig_length_zero.1 HLL.out
  subst hn
  have hnil : ∀ W : World, (binOp .eql 210 (.slice none 0 c) (.slice none 0 0)).run Tryz.prog W = .ok (.bool true) W := fun W => Lib.run_eql_slice_nil W _ 157 none 0 c 0 0 Tryz.underlying210
  go_enter Tryz.func274, Tryz.ntmps274
  go_wp2
  go_ret
  exact ⟨none, 0, by rw [dig_zero]; rfl, by rw [dig_zero]; exact Rd32.nil w, fun R _ => Off.nil, Below.refl _ _⟩
 | some ad =>
  have hnil : ∀ W : World, (binOp .eql 210 (.slice (some ad) L c) (.slice none 0 0)).run Tryz.prog W = .ok (.bool false) W := fun W => Lib.run_eql_slice_nil W _ 157 (some ad) L c 0 0 Tryz.underlying210
  go_enter Tryz.func274, Tryz.ntmps274
  go_wp2_with (at_builtin; refine wpList_append_any _ rfl _ _ 210 210 rfl w.heap.size 157 157 i0 (.int .u32 0) 1 4 Tryz.underlying210 Tryz.underlying210 hi hz0 hz1 hz2 rfl (by decide) _ _ _ rfl HOWN.out (some ad) L c ((dig n).map U32) rfl HS.out.1 HS.out.2 (u32_one _) (by unfold maxLen; omega) (by omega) (by go_size) ?_)
  intro v' w1 hown hgrow _
  obtain ⟨hr1, hr2, _, a2, c2, rfl⟩ := rd_of_owns hown HD.out
  have hbl : Below w.heap.size w w1 := ((Below.refl _ w).alloc (Nat.le_refl _) _).grown hgrow (by simp) (fun k hk => (HOWN.out.lt k hk).1)
  have HR1 := hid hr1
  have HR2 := hid hr2
  have HB := hid hbl
  clear hr1 hr2 hown hgrow hbl HOWN
  go_wp2
  go_ret
  exact ⟨a2, c2, by rw [HLL.out]; rfl, by rw [HLL.out]; exact HR1.out, by rw [HLL.out]; exact HR2.out, HB.out⟩
def GivesQ2 (w : World) (q r : Nat) (e : Ending) (w' : World) : Prop :=
  ∃ a c a' c', e = .returned (.tuple #[.slice a (dig q).length c, .slice a' (dig r).length c']) ∧ Rd32 w' (.slice a (dig q).length c) (dig q) ∧ Rd32 w' (.slice a' (dig r).length c') (dig r) ∧
    (∀ R, R < w.heap.size → Off R (.slice a (dig q).length c)) ∧ (∀ R, R < w.heap.size → Off R (.slice a' (dig r).length c')) ∧ Below w.heap.size w w'
set_option maxRecDepth 100000 in
set_option maxHeartbeats 1000000 in
theorem frac_over1 (u v : Value) (n d : Nat) (w : World) (hx : Rd32 w u (dig n)) (hy : Rd32 w v (dig d)) (hl : (dig n).length ≤ 1073741824) (hd : 0 < d) (h1 : d < 4294967296 ∨ n < d) :
  Calls Tryz.prog 237 #[u, v] w (GivesQ2 w (n / d) (n % d)) := by
 have HX := hid hx
 have HY := hid hy
 have hcmp := frac_compare u v _ _ w hx hy
 rw [cmpL_dig] at hcmp
 clear hx hy
 by_cases hlt : n < d
 ·rw [sgn_lt hlt] at hcmp
  have HC := hid hcmp
  clear hcmp
  go_enter Tryz.func237, Tryz.ntmps237
  go_wp2_with fail
  refine HC.out.mono ?_
  rintro e w1 ⟨rfl, k1, rfl⟩
  go_wp2_with fail
  refine (frac_Clone u n _ HX.out.drewN hl).mono ?_
  rintro e w2 ⟨a2, c2, rfl, hr1, hr2, hb⟩
  have HR1 := hid hr1
  have HR2 := hid hr2
  have HB := hid hb
  clear hr1 hr2 hb
  go_wp2
  go_ret2
  have e1 : n / d = 0 := Nat.div_eq_of_lt hlt
  have e2 : n % d = n := Nat.mod_eq_of_lt hlt
  rw [e1, e2]
  exact ⟨none, 0, a2, c2, by rw [dig_zero]; rfl, by rw [dig_zero]; exact Rd32.nil _, HR1.out, fun R _ => Off.nil, HR2.out, (below_drewN (Below.refl _ _)).trans HB.out⟩
 ·have hd2 : d < 4294967296 := by omega
  have hcge : 0 ≤ sgn n d := sgn_nonneg.2 (by omega)
  generalize sgn n d = sg at *
  have HC := hid hcmp
  clear hcmp
  have hdd := dig_one_digit hd hd2
  have hy' := HY.out
  rw [hdd] at hy'
  obtain ⟨a', c', rfl, h3, h4, h5, h6⟩ := hy'
  obtain ⟨b, o, rfl, hb, hcell⟩ := h6 (by simp)
  have hcx := hcell 0 (by simp)
  simp only [List.getD_cons_zero, Nat.add_zero] at hcx
  clear h3 h4 h5 h6 hcell hdd
  go_enter Tryz.func237, Tryz.ntmps237
  go_wp2_with fail
  refine HC.out.mono ?_
  rintro e w1 ⟨rfl, k1, rfl⟩
  go_wp2_with fail
  refine (frac_short u (dig n) d _ HX.out.drewN hl hd hd2).mono ?_
  rintro e w2 ⟨a2, c2, rfl, hr1, hr2, hb2⟩
  rw [val_dig] at hr1 hr2
  rw [val_dig]
  have HR1 := hid hr1
  have HR2 := hid hr2
  have HB := hid hb2
  have hz2 := hb2.size
  simp at hz2
  clear hr1 hr2 hb2
  have hmod : n % d < d := Nat.mod_lt _ hd
  go_wp2_with fail
  have hn1 := Rd32.new1 w2 (n % d) 157 w2.heap.size rfl (by omega)
  have HN1 := hid hn1
  clear hn1
  refine (frac_trimmed _ [n % d] _ HN1.out).mono ?_
  rintro e w3 ⟨a3, c3, rfl, hv3, ho3, k3, rfl⟩
  have e3 : val [n % d] = n % d := by simp [val]
  rw [e3] at hv3 ho3
  rw [e3]
  have HV3 := hid (hv3 _ HN1.out)
  have HO3 := hid ho3
  clear hv3 ho3 e3
  go_wp2
  go_ret2
  exact ⟨a2, c2, a3, c3, by trivial, HR1.out.alloc.drewN, HV3.out.drewN, HR2.out, fun R hR => HO3.out R (Off.of_lt (by omega)), by have hb2 := HB.out; repeat' (first | (with_reducible exact Below.refl _ _) | (with_reducible assumption) | (with_reducible refine below_drewN ?_) | (with_reducible refine Below.alloc ?_ ?_ _) | (with_reducible refine Below.drew ?_) | (with_reducible refine Below.setCell ?_ ?_ _) | (with_reducible refine Below.trans ?_ (Below.mono (by with_reducible assumption) ?_)) | go_size)⟩
set_option maxHeartbeats 1000000 in
theorem frac_common1 (u v : Value) (A B : Nat) (w : World) (hx : Rd32 w u (dig A)) (hy : Rd32 w v (dig B)) (hl : (dig A).length ≤ 1073741824) (hB : B < 4294967296) :
  Calls Tryz.prog 178 #[u, v] w (GivesS [u, v] w (Nat.gcd A B)) := by
 have HU := hid (hx.holds [u, v] w.heap.size (by simp))
 have HV := hid (hy.holds [u, v] w.heap.size (by simp))
 obtain ⟨us, hus⟩ : ∃ us, us = [u, v] := ⟨_, rfl⟩
 rw [← hus] at HU HV
 have HUS := hid hus
 clear hus hx hy
 go_enter Tryz.func178, Tryz.ntmps178
 go_wp2
 go_loopg [0, 1] B (fun N p q wr => ∃ a b : Nat, b = N ∧ b < 4294967296 ∧ (dig a).length ≤ 1073741824 ∧ Nat.gcd a b = Nat.gcd A B ∧ HoldsZ us w.heap.size wr p a ∧ HoldsZ us w.heap.size wr q b ∧ Below w.heap.size w wr)
 case atStart => exact ⟨A, B, rfl, hB, hl, rfl, HU.out, HV.out, Below.refl _ _⟩
 case round =>
  clear HU HV
  obtain ⟨a, b, rfl, hb, hla, hg, hpa, hqb, hbl⟩ := hrel
  have HG := hid hg
  have HP := hid hpa
  have HQ := hid hqb
  have HB := hid hbl
  have hbs := hbl.size
  clear hg hpa hqb hbl
  obtain ⟨p2, L2, c2, rfl, hL2⟩ := HQ.out.len
  by_cases hb0 : 0 < b
  ·have hl2 := hL2.2 hb0
   clear hL2
   go_wp2_with fail
   refine (frac_over1 _ _ a b _ HP.out.rd HQ.out.rd hla hb0 (.inl hb)).mono ?_
   rintro e w2 ⟨a1, c1, a2, c2', rfl, hr1, hr2, ho1, ho2, hb2⟩
   have HR2 := hid hr2
   have HO2 := hid ho2
   have HB2 := hid hb2
   clear hr1 hr2 ho1 ho2 hb2
   have hmod : a % b < b := Nat.mod_lt _ hb0
   go_wp2
   go_roundg (a % b)
   case measure => exact hmod
   case rel => exact ⟨b, a % b, rfl, by omega, by rw [dig_one_digit hb0 hb]; simp, by rw [← HG.out, Nat.gcd_comm a b, Nat.gcd_rec b a, Nat.gcd_comm], HQ.out.kept HB2.out, HoldsZ.of_gives hbs HR2.out HO2.out, HB.out.trans (HB2.out.mono hbs)⟩
  ·obtain rfl : b = 0 := by omega
   have hL0 : L2 = 0 := by omega
   subst hL0
   have HG2 : Hid (a = Nat.gcd A B) := by have := HG.out; rwa [Nat.gcd_zero_right] at this
   clear hL2 HG
   go_wp2
   go_ret
   exact ⟨_, rfl, by rw [← HUS.out, ← HG2.out]; exact HP.out, HB.out⟩
end Go.Proofs.YthblaeleogdfpaaGreatDoor.Fr

namespace Go.Proofs.YthblaeleogdfpaaGreatDoor.Fr
open Go.RowKit
set_option maxHeartbeats 1000000 in
theorem frac_bigs2 (g : Nat) (n1 n2 : Bool) (xs1 xs2 : List Nat) (a1 a2 : Option Addr) (c1 c2 : Nat) (w : World) (hg : g < w.heap.size)
  (h0 : w.cell? ⟨g, 0, none⟩ = some (.bool n1)) (h1 : w.cell? ⟨g, 1, none⟩ = some (.slice a1 xs1.length c1)) (h2 : w.cell? ⟨g, 2, none⟩ = some (.bool n2)) (h3 : w.cell? ⟨g, 3, none⟩ = some (.slice a2 xs2.length c2))
  (hr1 : Rd32 w (.slice a1 xs1.length c1) xs1) (hr2 : Rd32 w (.slice a2 xs2.length c2) xs2) :
  Calls Tryz.prog 177 #[.slice (some ⟨g, 0, none⟩) 2 2] w (Ret w (.bool (okBig n1 xs1 && okBig n2 xs2))) := by
 have HR1 := hid hr1
 have HR2 := hid hr2
 have HV1 := hid (fun W (hb : Below w.heap.size w W) => frac_ValidBig (.agg #[.bool n1, .slice a1 xs1.length c1]) n1 xs1 W ⟨a1, c1, rfl, hr1.kept hb⟩)
 have HV2 := hid (fun W (hb : Below w.heap.size w W) => frac_ValidBig (.agg #[.bool n2, .slice a2 xs2.length c2]) n2 xs2 W ⟨a2, c2, rfl, hr2.kept hb⟩)
 clear hr1 hr2
 generalize xs1.length = l1 at *
 generalize xs2.length = l2 at *
 generalize okBig n1 xs1 = k1 at *
 generalize okBig n2 xs2 = k2 at *
 go_enter Tryz.func177, Tryz.ntmps177
 go_wp2
 refine wp_loop_rounds 3 ?_
 rw [rounds_succ]
 go_wp2_with fail
 refine (HV1.out _ (by repeat' (first | (with_reducible exact Below.refl _ _) | (with_reducible assumption) | (with_reducible refine below_drewN ?_) | (with_reducible refine Below.alloc ?_ ?_ _) | (with_reducible refine Below.drew ?_) | (with_reducible refine Below.setCell ?_ ?_ _) | (with_reducible refine Below.trans ?_ (Below.mono (by with_reducible assumption) ?_)) | go_size))).mono ?_
 rintro e w1 ⟨rfl, hb1⟩
 have HB1 := hid hb1
 have hz1 := hb1.size
 clear hb1
 simp at hz1
 have q2 := cell_later HB1.out (a := ⟨g, 2, none⟩) (v := .bool n2) (by go_cell)
 have q3 := cell_later HB1.out (a := ⟨g, 3, none⟩) (v := .slice a2 l2 c2) (by go_cell)
 cases k1
 ·go_wp2
  go_ret
  exact ⟨by simp, by have hb1 := HB1.out; repeat' (first | (with_reducible exact Below.refl _ _) | (with_reducible assumption) | (with_reducible refine below_drewN ?_) | (with_reducible refine Below.alloc ?_ ?_ _) | (with_reducible refine Below.drew ?_) | (with_reducible refine Below.setCell ?_ ?_ _) | (with_reducible refine Below.trans ?_ (Below.mono (by with_reducible assumption) ?_)) | go_size)⟩
 ·go_wp2
  rw [rounds_succ]
  go_wp2_with fail
  have hbA : Below w.heap.size w w1 := by have hb1 := HB1.out; repeat' (first | (with_reducible exact Below.refl _ _) | (with_reducible assumption) | (with_reducible refine below_drewN ?_) | (with_reducible refine Below.alloc ?_ ?_ _) | (with_reducible refine Below.drew ?_) | (with_reducible refine Below.setCell ?_ ?_ _) | (with_reducible refine Below.trans ?_ (Below.mono (by with_reducible assumption) ?_)) | go_size)
  refine (HV2.out _ (by repeat' (first | (with_reducible exact Below.refl _ _) | (with_reducible assumption) | (with_reducible refine below_drewN ?_) | (with_reducible refine Below.alloc ?_ ?_ _) | (with_reducible refine Below.drew ?_) | (with_reducible refine Below.setCell ?_ ?_ _) | (with_reducible refine Below.trans ?_ (Below.mono (by with_reducible assumption) ?_)) | go_size))).mono ?_
  rintro e w2 ⟨rfl, hb2⟩
  have HB2 := hid hb2
  have HBA := hid hbA
  have hz2 := hb2.size
  clear hb2 hbA
  simp at hz2
  cases k2
  ·go_wp2
   go_ret
   exact ⟨by simp, by have hb1 := HBA.out; have hb2 := HB2.out; repeat' (first | (with_reducible exact Below.refl _ _) | (with_reducible assumption) | (with_reducible refine below_drewN ?_) | (with_reducible refine Below.alloc ?_ ?_ _) | (with_reducible refine Below.drew ?_) | (with_reducible refine Below.setCell ?_ ?_ _) | (with_reducible refine Below.trans ?_ (Below.mono (by with_reducible assumption) ?_)) | go_size)⟩
  ·go_wp2
   rw [rounds_succ]
   go_wp2
   go_ret
   exact ⟨by simp, by have hb1 := HBA.out; have hb2 := HB2.out; repeat' (first | (with_reducible exact Below.refl _ _) | (with_reducible assumption) | (with_reducible refine below_drewN ?_) | (with_reducible refine Below.alloc ?_ ?_ _) | (with_reducible refine Below.drew ?_) | (with_reducible refine Below.setCell ?_ ?_ _) | (with_reducible refine Below.trans ?_ (Below.mono (by with_reducible assumption) ?_)) | go_size)⟩
theorem okBig_dig (neg : Bool) (n : Nat) (hn : n < 4294967296 ^ 256) (h0 : n = 0 → neg = false) : okBig neg (dig n) = true := by
 unfold okBig
 have hl := dig_length_le hn
 by_cases hz : n = 0
 ·subst hz
  rw [dig_zero]; simp [h0 rfl]
 ·have h1 := lead_dig n (dig_length_pos.2 (by omega))
  have h2 := dig_length_pos.2 (show 0 < n by omega)
  simp only [decide_eq_true_eq]
  exact ⟨hl, .inr ⟨h2, h1⟩⟩
theorem okBig_false (n : Nat) (hn : (dig n).length ≤ 256) : okBig false (dig n) = true := by
 unfold okBig
 by_cases hz : n = 0
 ·subst hz
  rw [dig_zero]; simp
 ·have h1 := lead_dig n (dig_length_pos.2 (by omega))
  have h2 := dig_length_pos.2 (show 0 < n by omega)
  simp only [decide_eq_true_eq]
  exact ⟨hn, .inr ⟨h2, h1⟩⟩
theorem dig_length_64 {n : Nat} (h : n < 18446744073709551616) : (dig n).length ≤ 2 := dig_length_le (k := 2) (by omega)
set_option maxHeartbeats 1000000 in
theorem frac_FromInt (n : Nat) (w : World) (h : n < 9223372036854775808) :
  Calls Tryz.prog 156 #[.int .i64 (n : Int)] w (GivesZ [] w false n) := by
 have hl : (dig n).length ≤ 1073741824 := Nat.le_trans (dig_length_64 (by omega)) (by omega)
 go_enter Tryz.func156, Tryz.ntmps156
 go_wp2_with fail
 refine (frac_natural n _ (by omega)).mono ?_
 rintro e w1 ⟨a1, c1, rfl, hr1, ho1, hb1⟩
 have HR1 := hid hr1
 have HB1 := hid hb1
 have hz1 := hb1.size
 have q0 := cell_later hb1 (a := ⟨w.heap.size, 0, none⟩) (v := .bool false) (by go_cell)
 have q1 := cell_later hb1 (a := ⟨w.heap.size, 1, none⟩) (v := .slice none 0 0) (by go_cell)
 have f0 := frozen_later hb1 (a := ⟨w.heap.size, 0, none⟩) (v := .bool false) (by go_cell) (by simp [go_sem])
 have f1 := frozen_later hb1 (a := ⟨w.heap.size, 1, none⟩) (v := .slice none 0 0) (by go_cell) (by simp [go_sem])
 clear hr1 ho1 hb1
 simp at hz1
 go_wp2_with fail
 refine (frac_signed false _ n _ HR1.out hl).mono ?_
 rintro e w2 ⟨a2, c2, rfl, hr2, ho2, hb2⟩
 have HR2 := hid hr2
 have HO2 := hid (fun R hR => ho2 R hR (fun u hu => by cases hu))
 have HB2 := hid hb2
 have hz2 := hb2.size
 have q2 := cell_later hb2 q0
 have q3 := cell_later hb2 q1
 have f2 := frozen_later hb2 q0 f0
 have f3 := frozen_later hb2 q1 f1
 clear hr2 ho2 hb2
 go_wp2
 refine bodyPost_ret (by simp [results, Tryz.results156, go_sem, q2, q3]; rfl) rfl ?_
 exact ⟨a2, c2, by trivial, (HR2.out.setCell (HO2.out _ (by simp; omega))).setCell (HO2.out _ (by simp; omega)), fun R hR _ => HO2.out R (by omega), by have hb1 := HB1.out; have hb2 := HB2.out; repeat' (first | (with_reducible exact Below.refl _ _) | (with_reducible assumption) | (with_reducible refine below_drewN ?_) | (with_reducible refine Below.alloc ?_ ?_ _) | (with_reducible refine Below.drew ?_) | (with_reducible refine Below.setCell ?_ ?_ _) | (with_reducible refine Below.trans ?_ (Below.mono (by with_reducible assumption) ?_)) | go_size)⟩
end Go.Proofs.YthblaeleogdfpaaGreatDoor.Fr

namespace Go.Proofs.YthblaeleogdfpaaGreatDoor.Fr
open Go.RowKit
def RdF (w : World) (v : Value) (neg : Bool) (p q : Nat) : Prop :=
  ∃ a c a' c', v = .agg #[.bool neg, .slice a (dig p).length c, .bool false, .slice a' (dig q).length c'] ∧ Rd32 w (.slice a (dig p).length c) (dig p) ∧ Rd32 w (.slice a' (dig q).length c') (dig q)
theorem RdF.kept {w w' : World} {v : Value} {neg : Bool} {p q : Nat} (h : RdF w v neg p q) (hb : Below w.heap.size w w') : RdF w' v neg p q := by
 obtain ⟨a, c, a', c', e, h1, h2⟩ := h; exact ⟨a, c, a', c', e, h1.kept hb, h2.kept hb⟩
def NewF (B : Nat) (w' : World) (a : Option Addr) (c : Nat) (a' : Option Addr) (c' : Nat) (p q : Nat) : Prop :=
  Rd32 w' (.slice a (dig p).length c) (dig p) ∧ Rd32 w' (.slice a' (dig q).length c') (dig q) ∧ (∀ R, R < B → Off R (.slice a (dig p).length c)) ∧ (∀ R, R < B → Off R (.slice a' (dig q).length c'))
theorem NewF.setCell {B : Nat} {w' : World} {a : Option Addr} {c : Nat} {a' : Option Addr} {c' p q : Nat} (h : NewF B w' a c a' c' p q) {x : Addr} {v : Value} (hx : x.block < B) : NewF B (w'.setCell x v) a c a' c' p q :=
 ⟨h.1.setCell (h.2.2.1 _ hx), h.2.1.setCell (h.2.2.2 _ hx), h.2.2⟩
theorem NewF.mono {B B' : Nat} {w' : World} {a : Option Addr} {c : Nat} {a' : Option Addr} {c' p q : Nat} (h : NewF B w' a c a' c' p q) (hB : B' ≤ B) : NewF B' w' a c a' c' p q :=
 ⟨h.1, h.2.1, fun R hR => h.2.2.1 R (by omega), fun R hR => h.2.2.2 R (by omega)⟩
theorem NewF.kept {B : Nat} {w w' : World} {a : Option Addr} {c : Nat} {a' : Option Addr} {c' p q : Nat} (h : NewF B w a c a' c' p q) (hb : Below w.heap.size w w') : NewF B w' a c a' c' p q :=
 ⟨h.1.kept hb, h.2.1.kept hb, h.2.2⟩
theorem NewF.rd {B : Nat} {w : World} {a : Option Addr} {c : Nat} {a' : Option Addr} {c' p q : Nat} (h : NewF B w a c a' c' p q) (neg : Bool) : RdF w (.agg #[.bool neg, .slice a (dig p).length c, .bool false, .slice a' (dig q).length c']) neg p q := ⟨a, c, a', c', rfl, h.1, h.2.1⟩
def GivesF (w : World) (neg : Bool) (p q : Nat) (e : Ending) (w' : World) : Prop :=
  ∃ a c a' c', e = .returned (.agg #[.bool neg, .slice a (dig p).length c, .bool false, .slice a' (dig q).length c']) ∧ NewF w.heap.size w' a c a' c' p q ∧ Below w.heap.size w w'
def GivesFE (w : World) (neg : Bool) (p q : Nat) (r : Value) (e : Ending) (w' : World) : Prop :=
  ∃ a c a' c', e = .returned (.tuple #[.agg #[.bool neg, .slice a (dig p).length c, .bool false, .slice a' (dig q).length c'], r]) ∧ NewF w.heap.size w' a c a' c' p q ∧ Below w.heap.size w w'
set_option maxRecDepth 100000 in
set_option maxHeartbeats 2000000 in
theorem frac_reduced1 (s1 : Bool) (a a' : Option Addr) (c c' : Nat) (n d : Nat) (w : World) (hx : Rd32 w (.slice a (dig n).length c) (dig n)) (hy : Rd32 w (.slice a' (dig d).length c') (dig d)) (hl : (dig n).length ≤ 1073741824) (hd : 0 < d) (hd2 : d < 4294967296) :
  Calls Tryz.prog 207 #[.agg #[.bool s1, .slice a (dig n).length c], .agg #[.bool false, .slice a' (dig d).length c']] w (GivesF w (s1 && decide (0 < n / Nat.gcd n d)) (n / Nat.gcd n d) (d / Nat.gcd n d)) := by
 have hg0 : 0 < Nat.gcd n d := Nat.gcd_pos_of_pos_right _ hd
 have hgd : Nat.gcd n d ≤ d := Nat.gcd_le_right _ hd
 have hld : (dig d).length ≤ 1073741824 := Nat.le_trans (dig_length_le (k := 1) (by omega)) (by omega)
 have hl1 : (dig (n / Nat.gcd n d)).length ≤ 1073741824 := Nat.le_trans (dig_length_mono (Nat.div_le_self _ _)) hl
 have hl2 : (dig (d / Nat.gcd n d)).length ≤ 1073741824 := Nat.le_trans (dig_length_mono (Nat.div_le_self _ _)) hld
 have HX := hid hx
 have HY := hid hy
 have HC := hid (fun W (hb : Below w.heap.size w W) => frac_common1 _ _ n d W (hx.kept hb) (hy.kept hb) hl hd2)
 have HL := hid hl
 have HLD := hid hld
 have HL1 := hid hl1
 have HL2 := hid hl2
 clear hx hy hl hld hl1 hl2
 generalize Nat.gcd n d = g at *
 have HO1 := hid (fun W v (hb : Below w.heap.size w W) (hv : Rd32 W v (dig g)) => frac_over1 _ v n g W (HX.out.kept hb) hv HL.out hg0 (.inl (by omega)))
 have HO2 := hid (fun W v (hb : Below w.heap.size w W) (hv : Rd32 W v (dig g)) => frac_over1 _ v d g W (HY.out.kept hb) hv HLD.out hg0 (.inl (by omega)))
 generalize (dig n).length = L at *
 generalize (dig d).length = L' at *
 generalize n / g = p at *
 generalize d / g = q at *
 go_enter Tryz.func207, Tryz.ntmps207
 go_wp2_with fail
 refine (HC.out _ (by repeat' (first | (with_reducible exact Below.refl _ _) | (with_reducible assumption) | (with_reducible refine below_drewN ?_) | (with_reducible refine Below.alloc ?_ ?_ _) | (with_reducible refine Below.drew ?_) | (with_reducible refine Below.setCell ?_ ?_ _) | (with_reducible refine Below.trans ?_ (Below.mono (by with_reducible assumption) ?_)) | go_size))).mono ?_
 rintro e w1 ⟨v1, rfl, hv1, hb1⟩
 have HV1 := hid hv1
 have HB1 := hid hb1
 have hz1 := hb1.size
 have k0 := cell_later hb1 (a := ⟨w.heap.size, 0, none⟩) (v := .bool s1) (by go_cell)
 have k1 := cell_later hb1 (a := ⟨w.heap.size, 1, none⟩) (v := .slice a L c) (by go_cell)
 have k2 := cell_later hb1 (a := ⟨w.heap.size + 1, 0, none⟩) (v := .bool false) (by go_cell)
 have k3 := cell_later hb1 (a := ⟨w.heap.size + 1, 1, none⟩) (v := .slice a' L' c') (by go_cell)
 have k4 := cell_later hb1 (a := ⟨w.heap.size + 1 + 1, 0, none⟩) (v := .bool false) (by go_cell)
 have k5 := cell_later hb1 (a := ⟨w.heap.size + 1 + 1, 1, none⟩) (v := .slice none 0 0) (by go_cell)
 have k6 := cell_later hb1 (a := ⟨w.heap.size + 1 + 1, 2, none⟩) (v := .bool false) (by go_cell)
 have k7 := cell_later hb1 (a := ⟨w.heap.size + 1 + 1, 3, none⟩) (v := .slice none 0 0) (by go_cell)
 have fk4 := frozen_later hb1 (a := ⟨w.heap.size + 1 + 1, 0, none⟩) (v := .bool false) (by go_cell) (by simp [go_sem])
 have fk5 := frozen_later hb1 (a := ⟨w.heap.size + 1 + 1, 1, none⟩) (v := .slice none 0 0) (by go_cell) (by simp [go_sem])
 have fk6 := frozen_later hb1 (a := ⟨w.heap.size + 1 + 1, 2, none⟩) (v := .bool false) (by go_cell) (by simp [go_sem])
 have fk7 := frozen_later hb1 (a := ⟨w.heap.size + 1 + 1, 3, none⟩) (v := .slice none 0 0) (by go_cell) (by simp [go_sem])
 have hA1 : Below w.heap.size w w1 := by repeat' (first | (with_reducible exact Below.refl _ _) | (with_reducible assumption) | (with_reducible refine below_drewN ?_) | (with_reducible refine Below.alloc ?_ ?_ _) | (with_reducible refine Below.drew ?_) | (with_reducible refine Below.setCell ?_ ?_ _) | (with_reducible refine Below.trans ?_ (Below.mono (by with_reducible assumption) ?_)) | go_size)
 have HA1 := hid hA1
 obtain ⟨ag, Lg, cg, rfl, _⟩ := HV1.out.len
 have HG := hid hv1.rd
 clear hv1 hb1 hA1
 simp at hz1
 go_wp2_with fail
 refine (HO1.out _ _ HA1.out HG.out).mono ?_
 rintro e w2 ⟨a2, c2, a3, c3, rfl, hr1, hr2, ho1, ho2, hb2⟩
 have HP := hid hr1
 have HPO := hid ho1
 have HB2 := hid hb2
 have hz2 := hb2.size
 have j0 := cell_later hb2 k0
 have j1 := cell_later hb2 k1
 have j2 := cell_later hb2 k2
 have j3 := cell_later hb2 k3
 have j4 := cell_later hb2 k4
 have j5 := cell_later hb2 k5
 have j6 := cell_later hb2 k6
 have j7 := cell_later hb2 k7
 have fj4 := frozen_later hb2 k4 fk4
 have fj5 := frozen_later hb2 k5 fk5
 have fj6 := frozen_later hb2 k6 fk6
 have fj7 := frozen_later hb2 k7 fk7
 have hA2 : Below w.heap.size w w2 := by have h := HA1.out; repeat' (first | (with_reducible exact Below.refl _ _) | (with_reducible assumption) | (with_reducible refine below_drewN ?_) | (with_reducible refine Below.alloc ?_ ?_ _) | (with_reducible refine Below.drew ?_) | (with_reducible refine Below.setCell ?_ ?_ _) | (with_reducible refine Below.trans ?_ (Below.mono (by with_reducible assumption) ?_)) | go_size)
 have HA2 := hid hA2
 clear hr1 hr2 ho1 ho2 hb2 hA2
 go_wp2_with fail
 refine (HO2.out _ _ HA2.out (HG.out.kept HB2.out)).mono ?_
 rintro e w3 ⟨a4, c4, a5, c5, rfl, hr1, hr2, ho1, ho2, hb3⟩
 have HQ := hid hr1
 have HQO := hid ho1
 have HB3 := hid hb3
 have hz3 := hb3.size
 have m0 := cell_later hb3 j0
 have m1 := cell_later hb3 j1
 have m2 := cell_later hb3 j2
 have m3 := cell_later hb3 j3
 have m4 := cell_later hb3 j4
 have m5 := cell_later hb3 j5
 have m6 := cell_later hb3 j6
 have m7 := cell_later hb3 j7
 have fm4 := frozen_later hb3 j4 fj4
 have fm5 := frozen_later hb3 j5 fj5
 have fm6 := frozen_later hb3 j6 fj6
 have fm7 := frozen_later hb3 j7 fj7
 clear hr1 hr2 ho1 ho2 hb3
 go_wp2_with fail
 refine (frac_signed _ _ p _ (HP.out.kept HB3.out) HL1.out).mono ?_
 rintro e w4 ⟨a6, c6, rfl, hr1, ho1, hb4⟩
 have HR1 := hid hr1
 have HRO1 := hid (fun R hR => ho1 R hR (fun u hu => by cases hu))
 have HB4 := hid hb4
 have hz4 := hb4.size
 have n0 := cell_later hb4 m0
 have n1 := cell_later hb4 m1
 have n2 := cell_later hb4 m2
 have n3 := cell_later hb4 m3
 have n4 := cell_later hb4 m4
 have n5 := cell_later hb4 m5
 have n6 := cell_later hb4 m6
 have n7 := cell_later hb4 m7
 have fn4 := frozen_later hb4 m4 fm4
 have fn5 := frozen_later hb4 m5 fm5
 have fn6 := frozen_later hb4 m6 fm6
 have fn7 := frozen_later hb4 m7 fm7
 clear hr1 ho1 hb4
 go_wp2_with fail
 refine (frac_signed _ _ q _ (HQ.out.kept HB4.out) HL2.out).mono ?_
 rintro e w5 ⟨a7, c7, rfl, hr1, ho1, hb5⟩
 have HR2 := hid hr1
 have HRO2 := hid (fun R hR => ho1 R hR (fun u hu => by cases hu))
 have HB5 := hid hb5
 have hz5 := hb5.size
 have o0 := cell_later hb5 n0
 have o1 := cell_later hb5 n1
 have o2 := cell_later hb5 n2
 have o3 := cell_later hb5 n3
 have o4 := cell_later hb5 n4
 have o5 := cell_later hb5 n5
 have o6 := cell_later hb5 n6
 have o7 := cell_later hb5 n7
 have fo4 := frozen_later hb5 n4 fn4
 have fo5 := frozen_later hb5 n5 fn5
 have fo6 := frozen_later hb5 n6 fn6
 have fo7 := frozen_later hb5 n7 fn7
 clear hr1 ho1 hb5
 go_wp2
 refine bodyPost_ret (by simp [results, Tryz.results207, go_sem, o4, o5, o6, o7]; rfl) rfl ?_
 have hN : NewF (w.heap.size + 1 + 1 + 1) w5 a6 c6 a7 c7 p q := ⟨HR1.out.kept HB5.out, HR2.out, fun R hR => HRO1.out R (by omega), fun R hR => HRO2.out R (by omega)⟩
 exact ⟨a6, c6, a7, c7, by first | rfl | simp, ((((hN.setCell (by simp)).setCell (by simp)).setCell (by simp)).setCell (by simp)).mono (by omega), by have h2 := HA2.out; have h3 := HB3.out; have h4 := HB4.out; have h5 := HB5.out; repeat' (first | (with_reducible exact Below.refl _ _) | (with_reducible assumption) | (with_reducible refine below_drewN ?_) | (with_reducible refine Below.alloc ?_ ?_ _) | (with_reducible refine Below.drew ?_) | (with_reducible refine Below.setCell ?_ ?_ _) | (with_reducible refine Below.trans ?_ (Below.mono (by with_reducible assumption) ?_)) | go_size)⟩
set_option maxRecDepth 100000 in
set_option maxHeartbeats 2000000 in
theorem frac_Make1 (s1 : Bool) (a a' : Option Addr) (c c' : Nat) (n d : Nat) (w : World) (hx : Rd32 w (.slice a (dig n).length c) (dig n)) (hy : Rd32 w (.slice a' (dig d).length c') (dig d)) (hok : okBig s1 (dig n) = true) (hl : (dig n).length ≤ 1073741824) (hd : 0 < d) (hd2 : d < 4294967296) :
  Calls Tryz.prog 155 #[.agg #[.bool s1, .slice a (dig n).length c], .agg #[.bool false, .slice a' (dig d).length c']] w (GivesFE w (s1 && decide (0 < n / Nat.gcd n d)) (n / Nat.gcd n d) (d / Nat.gcd n d) (.int .i64 0)) := by
 have hok2 : okBig false (dig d) = true := okBig_false d (Nat.le_trans (dig_length_le (k := 1) (by omega)) (by omega))
 have hb2 := fun W g hb hg h0 h1 h2 h3 => frac_bigs2 g s1 false (dig n) (dig d) a a' c c' W hg h0 h1 h2 h3 (hx.kept hb) (hy.kept hb)
 rw [hok, hok2] at hb2
 have HBG := hid hb2
 have HRD := hid (fun W (hb : Below w.heap.size w W) => frac_reduced1 s1 a a' c c' n d W (hx.kept hb) (hy.kept hb) hl hd hd2)
 have hLp := dig_length_pos.2 hd
 clear hx hy hb2 hok hok2 hl
 generalize (dig n).length = L at *
 generalize (dig d).length = L' at *
 generalize n / Nat.gcd n d = p at *
 generalize d / Nat.gcd n d = q at *
 have hL0 : ((L' : Int) == 0) = false := by simp; omega
 go_enter Tryz.func155, Tryz.ntmps155
 go_wp2_with fail
 refine (HBG.out _ _ (by repeat' (first | (with_reducible exact Below.refl _ _) | (with_reducible assumption) | (with_reducible refine below_drewN ?_) | (with_reducible refine Below.alloc ?_ ?_ _) | (with_reducible refine Below.drew ?_) | (with_reducible refine Below.setCell ?_ ?_ _) | (with_reducible refine Below.trans ?_ (Below.mono (by with_reducible assumption) ?_)) | go_size)) (by simp) (by go_cell) (by go_cell) (by go_cell) (by go_cell)).mono ?_
 rintro e w1 ⟨rfl, hb1⟩
 have HB1 := hid hb1
 have hz1 := hb1.size
 have k0 := cell_later hb1 (a := ⟨w.heap.size, 0, none⟩) (v := .bool s1) (by go_cell)
 have k1 := cell_later hb1 (a := ⟨w.heap.size, 1, none⟩) (v := .slice a L c) (by go_cell)
 have k2 := cell_later hb1 (a := ⟨w.heap.size + 1, 0, none⟩) (v := .bool false) (by go_cell)
 have k3 := cell_later hb1 (a := ⟨w.heap.size + 1, 1, none⟩) (v := .slice a' L' c') (by go_cell)
 have k4 := cell_later hb1 (a := ⟨w.heap.size + 1 + 1, 0, none⟩) (v := .bool false) (by go_cell)
 have k5 := cell_later hb1 (a := ⟨w.heap.size + 1 + 1, 1, none⟩) (v := .slice none 0 0) (by go_cell)
 have k6 := cell_later hb1 (a := ⟨w.heap.size + 1 + 1, 2, none⟩) (v := .bool false) (by go_cell)
 have k7 := cell_later hb1 (a := ⟨w.heap.size + 1 + 1, 3, none⟩) (v := .slice none 0 0) (by go_cell)
 have fk4 := frozen_later hb1 (a := ⟨w.heap.size + 1 + 1, 0, none⟩) (v := .bool false) (by go_cell) (by simp [go_sem])
 have fk5 := frozen_later hb1 (a := ⟨w.heap.size + 1 + 1, 1, none⟩) (v := .slice none 0 0) (by go_cell) (by simp [go_sem])
 have fk6 := frozen_later hb1 (a := ⟨w.heap.size + 1 + 1, 2, none⟩) (v := .bool false) (by go_cell) (by simp [go_sem])
 have fk7 := frozen_later hb1 (a := ⟨w.heap.size + 1 + 1, 3, none⟩) (v := .slice none 0 0) (by go_cell) (by simp [go_sem])
 have hA1 : Below w.heap.size w w1 := by repeat' (first | (with_reducible exact Below.refl _ _) | (with_reducible assumption) | (with_reducible refine below_drewN ?_) | (with_reducible refine Below.alloc ?_ ?_ _) | (with_reducible refine Below.drew ?_) | (with_reducible refine Below.setCell ?_ ?_ _) | (with_reducible refine Below.trans ?_ (Below.mono (by with_reducible assumption) ?_)) | go_size)
 have HA1 := hid hA1
 clear hb1 hA1
 simp at hz1
 go_wp2_with fail
 refine (HRD.out _ HA1.out).mono ?_
 rintro e w2 ⟨a2, c2, a3, c3, rfl, hN, hb2⟩
 have HN := hid hN
 have HB2 := hid hb2
 have hz2 := hb2.size
 have j0 := cell_later hb2 k0
 have j1 := cell_later hb2 k1
 have j2 := cell_later hb2 k2
 have j3 := cell_later hb2 k3
 have j4 := cell_later hb2 k4
 have j5 := cell_later hb2 k5
 have j6 := cell_later hb2 k6
 have j7 := cell_later hb2 k7
 have fj4 := frozen_later hb2 k4 fk4
 have fj5 := frozen_later hb2 k5 fk5
 have fj6 := frozen_later hb2 k6 fk6
 have fj7 := frozen_later hb2 k7 fk7
 clear hN hb2
 go_wp2
 refine bodyPost_ret (by simp [results, Tryz.results155, go_sem, j4, j5, j6, j7]; rfl) rfl ?_
 exact ⟨a2, c2, a3, c3, by first | rfl | simp, ((((HN.out.setCell (by simp; omega)).setCell (by simp; omega)).setCell (by simp; omega)).setCell (by simp; omega)).mono (by omega), by have h2 := HA1.out; have h3 := HB2.out; repeat' (first | (with_reducible exact Below.refl _ _) | (with_reducible assumption) | (with_reducible refine below_drewN ?_) | (with_reducible refine Below.alloc ?_ ?_ _) | (with_reducible refine Below.drew ?_) | (with_reducible refine Below.setCell ?_ ?_ _) | (with_reducible refine Below.trans ?_ (Below.mono (by with_reducible assumption) ?_)) | go_size)⟩
end Go.Proofs.YthblaeleogdfpaaGreatDoor.Fr
