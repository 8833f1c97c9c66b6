/- Contracts of package fraction: signed, compare, Div32, short. Digits that a slot holds, wherever they lie. No program in sight. Contracts of package fraction: short, Clone, over (by one digit), common (of one digit). Contracts of package fraction: FromInt, bigs, reduced, Make, Of. -/
import Derived.Test.YtikiimlmoalbcaaGreatDoorCoFab
import Derived.Test.YtikiimlmoalbcaaGreatDoorCoFaa
set_option linter.unusedVariables false
set_option linter.unusedSimpArgs false
namespace Go.Proofs.YtikiimlmoalbcaaGreatDoor.Fr
open Go.RowKit
theorem Rd32.src {w : World} {a : Option Addr} {n c : Nat} {xs : List Nat} (h : Rd32 w (.slice a n c) xs) :
    (xs.map U32).length = n * 1 ∧ (0 < n → ∃ ad, a = some ad ∧ ∀ j u, (xs.map U32)[j]? = some u → w.cell? (ad.add j) = some u) := by
  obtain ⟨a', c', e, h1, h2, h3, h4⟩ := h
  obtain ⟨rfl, rfl, rfl⟩ := Value.slice.inj e
  refine ⟨by simp, fun hn => ?_⟩
  obtain ⟨b, o, rfl, h5, h6⟩ := h4 hn
  exact ⟨_, rfl, Rd32.news (n := 0) (c := 0) h6⟩
set_option maxHeartbeats 1000000 in
theorem frac_signed (neg : Bool) (u : Value) (n : Nat) (w : World) (hx : Rd32 w u (dig n)) (hl : (dig n).length ≤ 1073741824) :
    Calls Tryz.prog 173 #[.bool neg, u] w (GivesZ [] w neg n) := by
  obtain ⟨i0, hi, hz0, hz1, hz2⟩ := info_parts info_u32
  have hx' := hx
  obtain ⟨a, c, rfl, _⟩ := hx
  have HX := hid hx'
  have hsrc := (hx'.alloc (o := .cells #[.bool false, .slice none 0 0] 43)).src
  have HS := hid hsrc
  have HP := hid (@dig_length_pos n)
  have HD := hid (digs_dig n)
  clear hsrc hx'
  generalize hL : (dig n).length = L at *
  have HLL := hid hL
  clear hL
  by_cases hn : 0 < L
  all_goals
    cases neg
    all_goals
      go_enter Tryz.func173, Tryz.ntmps173
      go_wp2_with (at_builtin; refine wpList_append_any _ rfl _ _ 41 163 rfl (w.heap.size + 1) 132 132 i0 (.int .u32 0) 1 4 Tryz.underlying41 Tryz.underlying163 hi hz0 hz1 hz2 rfl (by decide) (.slice none 0 0) 0 [] rfl (World.ownsRow_nil _ _ _ _) a L c ((dig n).map U32) rfl HS.out.1 HS.out.2 (u32_one _) (by unfold maxLen; omega) (by omega) (by go_size) ?_)
      intro v' w1 hown hgrow _
      obtain ⟨hr1, hr2, _, a2, c2, rfl⟩ := rd_of_owns hown HD.out
      have q0 : w1.cell? ⟨w.heap.size, 0, none⟩ = some (.bool false) := hgrow.cell (by simp) (by simp [Value.ownBlock])
      have q1 : w1.cell? ⟨w.heap.size, 1, none⟩ = some (.slice none 0 0) := hgrow.cell (by simp) (by simp [Value.ownBlock])
      have f0 : w1.frozen? ⟨w.heap.size, 0, none⟩ = false := (World.frozen?_of_block (hgrow.block w.heap.size (by simp) (by simp [Value.ownBlock]))).trans (by simp)
      have f1 : w1.frozen? ⟨w.heap.size, 1, none⟩ = false := (World.frozen?_of_block (hgrow.block w.heap.size (by simp) (by simp [Value.ownBlock]))).trans (by simp)
      have hbl : Below w.heap.size w w1 := ((Below.refl _ w).alloc (Nat.le_refl _) _).grown hgrow (by simp) (fun k hk => by cases hk)
      have HR1 := hid hr1
      have HR2 := hid hr2
      have HB := hid hbl
      clear hr1 hr2 hown hgrow hbl
      go_wp2
      refine bodyPost_ret (by simp [results, Tryz.results173, go_sem, q0, q1]; rfl) rfl ?_
      have e : decide (0 < n) = decide (0 < L) := by have := HP.out; simp [this]
      refine ⟨a2, c2, by rw [HLL.out, e]; simp [hn], ?_, ?_, (HB.out.setCell (Nat.le_refl _) _).setCell (Nat.le_refl _) _⟩
      · rw [HLL.out]; exact (HR1.out.setCell (HR2.out _ (by simp))).setCell (HR2.out _ (by simp))
      · rw [HLL.out]; exact fun R hR _ => HR2.out R (by omega)
set_option maxHeartbeats 400000 in
theorem frac_compare (u v : Value) (xs ys : List Nat) (w : World) (hx : Rd32 w u xs) (hy : Rd32 w v ys) :
  Calls Tryz.prog 117 #[u, v] w (Quiet w (.int .i64 (cmpL xs ys))) := by
 obtain ⟨a, c, rfl, hc, hm, hxr, hxc⟩ := hx
 obtain ⟨a', c', rfl, hc', hm', hyr, hyc⟩ := hy
 obtain ⟨n, hn⟩ : ∃ n, n = xs.length := ⟨_, rfl⟩
 obtain ⟨n', hn'⟩ : ∃ n, n = ys.length := ⟨_, rfl⟩
 have HF : Hid (cmpL xs ys = if n = n' then cmpTop xs ys n else if n < n' then -1 else 1) := by simp [Hid, cmpL, hn, hn']
 generalize cmpL xs ys = F at *
 rw [← hn] at hc hxc ⊢
 rw [← hn'] at hc' hyc ⊢
 clear hn hn'
 unfold maxLen at hm hm'
 have hC := Compare_int (n : Int) (n' : Int)
 rw [isgn_nat] at hC
 by_cases hl : n = n'
 ·subst hl
  have HF' := HF.out
  rw [if_pos rfl] at HF'
  have HF2 := hid HF'
  rw [sgn_self] at hC
  have HC := hid hC
  clear HF' HF hC
  go_enter Tryz.func117, Tryz.ntmps117
  go_wp2_with (first | (go_at_call 136; refine (HC.out _).mono ?_; rintro e w' ⟨rfl, rfl⟩))
  go_loopg [6] n (fun N i w' => ∃ k : Nat, k = N ∧ k ≤ n ∧ i = .int .i64 ((k : Int) - 1) ∧ F = cmpTop xs ys k ∧ ∃ m, w' = w.drewN m)
  case atStart => exact ⟨n, rfl, Nat.le_refl _, rfl, HF2.out, 0, rfl⟩
  case round =>
   clear HF2 HC
   obtain ⟨k, rfl, hk, rfl, hf, m, rfl⟩ := hrel
   have HC := hid hf
   clear hf
   rcases k with _ | k
   ·go_wp2
    go_ret
    exact ⟨ret_int HC.out.symm, _, rfl⟩
   ·obtain ⟨b, o, rfl, hb, hcell⟩ := hxc (by omega)
    obtain ⟨b', o', rfl, hb', hcell'⟩ := hyc (by omega)
    have h1 : (w.drewN m).cell? ⟨b, o + k, none⟩ = _ := hcell k (by omega)
    have h2 : (w.drewN m).cell? ⟨b', o' + k, none⟩ = _ := hcell' k (by omega)
    have e1 : ((k + 1 : Nat) : Int) - 1 = (k : Int) := by omega
    rw [e1]
    obtain ⟨W, hW⟩ : ∃ W, w.drewN m = W := ⟨_, rfl⟩
    rw [hW] at h1 h2 ⊢
    have HW := hid hW
    clear hW
    have hF := HC.out
    rw [cmpTop] at hF
    generalize hX : xs.getD k 0 = x at *
    generalize hY : ys.getD k 0 = y at *
    have HF3 := hid hF
    have hC := Compare_u32 (x : Int) (y : Int)
    rw [isgn_nat] at hC
    clear hcell hcell' hF hX hY HC hxc hyc
    by_cases hlt : x < y
    ·rw [sgn_lt hlt] at hC
     have HC := hid hC
     clear hC
     go_wp2
     go_quiet ((go_at_call 164; exact Calls.quiet_of_same ((HC.out _).mono (fun _ _ h => ⟨h.1, h.2.symm⟩))))
     go_wp2
     go_ret
     exact ⟨ret_int (by rw [HF3.out, if_pos hlt]), _, by rw [← HW.out, World.drewN_drewN]⟩
    ·by_cases hgt : y < x
     ·rw [sgn_gt hgt] at hC
      have HC := hid hC
      clear hC
      go_wp2
      go_quiet ((go_at_call 164; exact Calls.quiet_of_same ((HC.out _).mono (fun _ _ h => ⟨h.1, h.2.symm⟩))))
      go_wp2
      go_ret
      exact ⟨ret_int (by rw [HF3.out, if_neg hlt, if_pos hgt]), _, by rw [← HW.out, World.drewN_drewN]⟩
     ·rw [show x = y from by omega, sgn_self] at hC
      rw [show x = y from by omega] at h1
      have HC := hid hC
      clear hC
      go_wp2
      go_quiet ((go_at_call 164; exact Calls.quiet_of_same ((HC.out _).mono (fun _ _ h => ⟨h.1, h.2.symm⟩))))
      go_wp2
      go_roundg k
      case measure => omega
      case rel => exact ⟨k, rfl, by omega, rfl, by rw [HF3.out, if_neg hlt, if_neg hgt], _, by rw [← HW.out, World.drewN_drewN]⟩
 ·have hF := HF.out
  rw [if_neg hl] at hF
  have HF2 := hid hF
  clear hF HF
  by_cases hlt : n < n'
  ·rw [sgn_lt hlt] at hC
   have HC := hid hC
   clear hC
   go_enter Tryz.func117, Tryz.ntmps117
   go_wp2_with (first | (go_at_call 136; refine (HC.out _).mono ?_; rintro e w' ⟨rfl, rfl⟩))
   go_ret
   exact ⟨ret_int (by rw [HF2.out, if_pos hlt]), 0, rfl⟩
  ·rw [sgn_gt (by omega)] at hC
   have HC := hid hC
   clear hC
   go_enter Tryz.func117, Tryz.ntmps117
   go_wp2_with (first | (go_at_call 136; refine (HC.out _).mono ?_; rintro e w' ⟨rfl, rfl⟩))
   go_ret
   exact ⟨ret_int (by rw [HF2.out, if_neg hlt]), 0, rfl⟩
def QuietQR (w : World) (q r : Nat) (e : Ending) (w' : World) : Prop := e = .returned (.tuple #[.int .u32 (q : Int), .int .u32 (r : Int)]) ∧ ∃ k, w' = w.drewN k
set_option maxHeartbeats 400000 in
theorem Div32_of (hi lo d : Nat) (w : World) (h1 : hi < d) (h2 : lo < 4294967296) (h3 : d < 4294967296) :
    Calls Tryz.prog 223 #[.int .u32 (hi : Int), .int .u32 (lo : Int), .int .u32 (d : Int)] w (QuietQR w ((hi * 4294967296 + lo) / d) ((hi * 4294967296 + lo) % d)) := by
  have hor : bits BinOp.or IntKind.u64 ((hi : Int) * 4294967296) (lo : Int) = ((hi * 4294967296 + lo : Nat) : Int) := by
    rw [show ((hi : Int) * 4294967296) = ((hi * 4294967296 : Nat) : Int) from by omega, u64_or_nat _ _ (by omega) (by omega), nat_join32 _ _ (by omega) (by omega)]
  have hq : (hi * 4294967296 + lo) / d < 4294967296 := by
    rw [Nat.div_lt_iff_lt_mul (by omega)]
    have : (hi + 1) * 4294967296 ≤ d * 4294967296 := Nat.mul_le_mul_right _ (by omega)
    omega
  have hr : (hi * 4294967296 + lo) % d < d := Nat.mod_lt _ (by omega)
  have ht : hi * 4294967296 + lo < 18446744073709551616 := by omega
  generalize hi * 4294967296 + lo = t at *
  have hdne : ((d : Int) != 0) = true := by simp; omega
  have hq' : ((t : Int) / (d : Int)) = ((t / d : Nat) : Int) := by rw [Int.natCast_ediv]
  have hr' : ((t : Int) % (d : Int)) = ((t % d : Nat) : Int) := by rw [Int.natCast_emod]
  generalize hqv : t / d = q at *
  generalize hrv : t % d = r at *
  clear hqv hrv
  go_enter Tryz.func223, Tryz.ntmps223
  go_wp2
  go_quiet (fail)
  go_wp2
  go_ret2
  exact ⟨by trivial, _, rfl⟩
end Go.Proofs.YtikiimlmoalbcaaGreatDoor.Fr

namespace Go.Proofs.YtikiimlmoalbcaaGreatDoor.Fr
open Go.RowKit
def HoldsZ (us : List Value) (B : Nat) (w : World) (v : Value) (n : Nat) : Prop :=
  ∃ a c, v = .slice a (dig n).length c ∧ Rd32 w (.slice a (dig n).length c) (dig n) ∧ (∀ R, R < B → (∀ u ∈ us, Off R u) → Off R (.slice a (dig n).length c))
theorem HoldsZ.kept {us : List Value} {B n : Nat} {w w' : World} {v : Value} (h : HoldsZ us B w v n) (hb : Below w.heap.size w w') : HoldsZ us B w' v n := by
  obtain ⟨a, c, e, h1, h2⟩ := h
  exact ⟨a, c, e, h1.kept hb, h2⟩
theorem HoldsZ.rd {us : List Value} {B n : Nat} {w : World} {v : Value} (h : HoldsZ us B w v n) : Rd32 w v (dig n) := by
  obtain ⟨a, c, rfl, h1, h2⟩ := h
  exact h1
theorem HoldsZ.head {us : List Value} {B n : Nat} {w : World} {v : Value} (h : HoldsZ us B w v n) (hn : 0 < n) :
    ∃ b o L c, v = .slice (some ⟨b, o, none⟩) L c ∧ 0 < L ∧ w.cell? ⟨b, o, none⟩ = some (.int .u32 ((n % 4294967296 : Nat) : Int)) := by
  obtain ⟨a, c, rfl, h1, h2⟩ := h
  obtain ⟨a', c', e, h3, h4, h5, h6⟩ := h1
  obtain ⟨rfl, _, rfl⟩ := Value.slice.inj e
  obtain ⟨b, o, rfl, h7, h8⟩ := h6 (dig_length_pos.2 hn)
  refine ⟨b, o, _, _, rfl, dig_length_pos.2 hn, ?_⟩
  have := h8 0 (dig_length_pos.2 hn)
  rw [dig_getD_zero] at this
  exact this
theorem HoldsZ.len {us : List Value} {B n : Nat} {w : World} {v : Value} (h : HoldsZ us B w v n) : ∃ p L c, v = .slice p L c ∧ (0 < L ↔ 0 < n) := by
  obtain ⟨a, c, rfl, h1, h2⟩ := h
  exact ⟨_, _, _, rfl, dig_length_pos⟩
theorem HoldsZ.of_gives {us : List Value} {B n : Nat} {w w1 : World} {a : Option Addr} {c : Nat} (hB : B ≤ w.heap.size) (h : Rd32 w1 (.slice a (dig n).length c) (dig n)) (ho : ∀ R, R < w.heap.size → Off R (.slice a (dig n).length c)) :
    HoldsZ us B w1 (.slice a (dig n).length c) n := ⟨a, c, rfl, h, fun R hR _ => ho R (by omega)⟩
def GivesS (us : List Value) (w : World) (n : Nat) (e : Ending) (w' : World) : Prop := ∃ v, e = .returned v ∧ HoldsZ us w.heap.size w' v n ∧ Below w.heap.size w w'
theorem Rd32.holds {w : World} {v : Value} {n : Nat} (us : List Value) (B : Nat) (h : Rd32 w v (dig n)) (hu : v ∈ us) : HoldsZ us B w v n := by
  have h' := h
  obtain ⟨a, c, rfl, _⟩ := h
  exact ⟨a, c, rfl, h', fun R _ h => h _ hu⟩
end Go.Proofs.YtikiimlmoalbcaaGreatDoor.Fr

namespace Go.Proofs.YtikiimlmoalbcaaGreatDoor.Fr
open Go.RowKit
def GivesQR (w : World) (q r : Nat) (e : Ending) (w' : World) : Prop :=
  ∃ a c, e = .returned (.tuple #[.slice a (dig q).length c, .int .u32 (r : Int)]) ∧ Rd32 w' (.slice a (dig q).length c) (dig q) ∧ (∀ R, R < w.heap.size → Off R (.slice a (dig q).length c)) ∧ Below w.heap.size w w'
set_option maxRecDepth 100000 in
set_option maxHeartbeats 2000000 in
theorem frac_short (u : Value) (xs : List Nat) (d : Nat) (w : World) (hx : Rd32 w u xs) (hlx : xs.length ≤ 1073741824) (hd : 0 < d) (hd2 : d < 4294967296) :
  Calls Tryz.prog 201 #[u, .int .u32 (d : Int)] w (GivesQR w (val xs / d) (val xs % d)) := by
 obtain ⟨a, c, rfl, hc, hm, hxr, hxc⟩ := hx
 unfold maxLen at hm
 obtain ⟨i0, hi, hz0, hz1, hz2⟩ := info_parts info_u32
 obtain ⟨n, hn⟩ : ∃ n, n = xs.length := ⟨_, rfl⟩
 rw [← hn] at hc hxc hlx ⊢
 have HN := hid hn
 have HX := hid hxr
 have HXC := hid hxc
 clear hn hxr hxc
 go_enter Tryz.func201, Tryz.ntmps201
 go_wp2_with (at_make; refine wpList_make_full _ rfl _ _ 163 rfl w.heap.size 132 i0 (.int .u32 0) 1 Tryz.underlying163 hi hz0 hz1 _ _ _ _ n rfl rfl (by omega) (by omega) (by rw [hz2]; omega) (by unfold maxLen; omega) (Nat.le_refl _) ?_)
 intro w1 hown hgrow
 have hO := Own32.of_made hown
 have hb1 : Below w.heap.size w w1 := (Below.refl _ _).grown hgrow (Nat.le_refl _) (fun k h => by cases h)
 have HO := hid hO
 have HB1 := hid hb1
 clear hown hgrow hO hb1
 generalize hg : w.heap.size = g at *
 have HG := hid hg
 clear hg
 go_wp2
 go_loopg [7, 8] n (fun N rv i wr => ∃ k r : Nat, k = N ∧ k ≤ n ∧ i = .int .i64 ((k : Int) - 1) ∧ rv = .int .u32 r ∧ r < d ∧ ∃ zs, Own32 wr g n zs ∧ val (zs.drop k) = val (xs.drop k) / d ∧ r = val (xs.drop k) % d ∧ Below g w wr)
 case atStart => exact ⟨n, 0, rfl, Nat.le_refl _, rfl, rfl, hd, _, HO.out, by rw [List.drop_eq_nil_of_le (by simp), List.drop_eq_nil_of_le (by have := HN.out; omega)]; simp [val], by rw [List.drop_eq_nil_of_le (by have := HN.out; omega)]; simp [val], HB1.out⟩
 case round =>
  clear HB1 HO
  obtain ⟨k, r, rfl, hk, rfl, rfl, hr, zs, hzo, hzv, hzr, hbl⟩ := hrel
  have HO := hid hzo
  have HV := hid hzv
  have HR := hid hzr
  have HB := hid hbl
  clear hzo hzv hzr hbl
  rcases k with _ | k
  ·have hV : val zs = val xs / d := by have := HV.out; simpa using this
   have hR : r = val xs % d := by have := HR.out; simpa using this
   have HF := hid hV
   have HRR := hid hR
   have hgl := HG.out
   clear hV hR
   go_wp2_with fail
   refine (frac_trimmed _ _ _ (HO.out.rd (Nat.le_refl _) (by unfold maxLen; omega))).mono ?_
   rintro e w' ⟨a2, c2, rfl, hv2, ho2, k2, rfl⟩
   rw [HF.out] at hv2 ho2
   rw [HF.out]
   have HV2 := hid (hv2 _ (HO.out.rd (Nat.le_refl _) (by unfold maxLen; omega)))
   have HO2 := hid ho2
   clear hv2 ho2
   go_wp2
   go_ret2
   exact ⟨_, _, by rw [HRR.out]; rfl, HV2.out, fun R hR => HO2.out R (Off.of_lt (by omega)), by rw [hgl]; exact below_drewN HB.out⟩
  ·obtain ⟨b, o, rfl, hb, hcell⟩ := HXC.out (by omega)
   have hbg : b < g := by have := HG.out; omega
   have hcx := (HB.out.cell (p := ⟨b, o + k, none⟩) hbg).trans (hcell k (by omega))
   have hxk := HX.out k
   obtain ⟨hcz, hfz⟩ := HO.out.2.2.2 k (by omega)
   have hst := short_step hd (show k < zs.length by rw [HO.out.1]; omega) (show k < xs.length by have := HN.out; omega) HV.out HR.out
   have e1 : ((k + 1 : Nat) : Int) - 1 = (k : Int) := by omega
   rw [e1]
   have hdv := Div32_of r (xs.getD k 0) d
   have hq : (r * 4294967296 + xs.getD k 0) / d < 4294967296 := by
    rw [Nat.div_lt_iff_lt_mul (by omega)]
    have : (r + 1) * 4294967296 ≤ d * 4294967296 := Nat.mul_le_mul_right _ (by omega)
    omega
   have hr' : (r * 4294967296 + xs.getD k 0) % d < d := Nat.mod_lt _ (by omega)
   have HDV := hid hdv
   have HST := hid hst
   clear hcell hdv hst
   generalize (r * 4294967296 + xs.getD k 0) / d = q at *
   generalize (r * 4294967296 + xs.getD k 0) % d = r' at *
   generalize xs.getD k 0 = x at *
   go_wp2_with fail
   refine (HDV.out _ hr hxk hd2).mono ?_
   rintro e w2 ⟨rfl, k2, rfl⟩
   go_wp2
   have HO2 := hid ((HO.out.drewN (n := k2)).set (show k < n by omega) hq)
   go_roundg k
   case measure => omega
   case rel => exact ⟨k, r', rfl, by omega, by go_num, rfl, hr', zs.set k q, HO2.out, HST.out.1, HST.out.2, (below_drewN HB.out).setCell (Nat.le_refl _) _⟩
set_option maxHeartbeats 1000000 in
theorem frac_Clone (u : Value) (n : Nat) (w : World) (hx : Rd32 w u (dig n)) (hl : (dig n).length ≤ 1073741824) :
    Calls Tryz.prog 200 #[u] w (GivesD w n) := by
  obtain ⟨i0, hi, hz0, hz1, hz2⟩ := info_parts info_u32
  have hx' := hx
  obtain ⟨a, c, rfl, _⟩ := hx
  have HX := hid hx'
  have hsrc := (hx'.alloc (o := .cells #[] 132)).src
  have HS := hid hsrc
  have HD := hid (digs_dig n)
  have hown0 : (w.alloc (.cells #[] 132)).ownsRow w.heap.size 132 1 (.slice (some ⟨w.heap.size, 0, none⟩) 0 0) 0 [] := World.ownsRow_made w #[] 0 (Nat.le_refl _) (Nat.zero_le _) rfl
  have HOWN := hid hown0
  clear hsrc hx' hown0
  generalize hL : (dig n).length = L at *
  have HLL := hid hL
  clear hL
  cases a with
  | none =>
    have h0 : L = 0 := by
      rcases Nat.eq_zero_or_pos L with h | h
      · exact h
      · obtain ⟨ad, h1, _⟩ := HS.out.2 h; cases h1
    subst h0
    have hn : n = 0 := dig_length_zero.1 HLL.out
    subst hn
    have hnil : ∀ W : World, (binOp .eql 163 (.slice none 0 c) (.slice none 0 0)).run Tryz.prog W = .ok (.bool true) W := fun W => Lib.run_eql_slice_nil W _ 132 none 0 c 0 0 Tryz.underlying163
    go_enter Tryz.func200, Tryz.ntmps200
    go_wp2
    go_ret
    exact ⟨none, 0, by rw [dig_zero]; rfl, by rw [dig_zero]; exact Rd32.nil w, fun R _ => Off.nil, Below.refl _ _⟩
  | some ad =>
    have hnil : ∀ W : World, (binOp .eql 163 (.slice (some ad) L c) (.slice none 0 0)).run Tryz.prog W = .ok (.bool false) W := fun W => Lib.run_eql_slice_nil W _ 132 (some ad) L c 0 0 Tryz.underlying163
    go_enter Tryz.func200, Tryz.ntmps200
    go_wp2_with (at_builtin; refine wpList_append_any _ rfl _ _ 163 163 rfl w.heap.size 132 132 i0 (.int .u32 0) 1 4 Tryz.underlying163 Tryz.underlying163 hi hz0 hz1 hz2 rfl (by decide) _ _ _ rfl HOWN.out (some ad) L c ((dig n).map U32) rfl HS.out.1 HS.out.2 (u32_one _) (by unfold maxLen; omega) (by omega) (by go_size) ?_)
    intro v' w1 hown hgrow _
    obtain ⟨hr1, hr2, _, a2, c2, rfl⟩ := rd_of_owns hown HD.out
    have hbl : Below w.heap.size w w1 := ((Below.refl _ w).alloc (Nat.le_refl _) _).grown hgrow (by simp) (fun k hk => (HOWN.out.lt k hk).1)
    have HR1 := hid hr1
    have HR2 := hid hr2
    have HB := hid hbl
    clear hr1 hr2 hown hgrow hbl HOWN
    go_wp2
    go_ret
    exact ⟨a2, c2, by rw [HLL.out]; rfl, by rw [HLL.out]; exact HR1.out, by rw [HLL.out]; exact HR2.out, HB.out⟩
def GivesQ2 (w : World) (q r : Nat) (e : Ending) (w' : World) : Prop :=
  ∃ a c a' c', e = .returned (.tuple #[.slice a (dig q).length c, .slice a' (dig r).length c']) ∧ Rd32 w' (.slice a (dig q).length c) (dig q) ∧ Rd32 w' (.slice a' (dig r).length c') (dig r) ∧
    (∀ R, R < w.heap.size → Off R (.slice a (dig q).length c)) ∧ (∀ R, R < w.heap.size → Off R (.slice a' (dig r).length c')) ∧ Below w.heap.size w w'
set_option maxRecDepth 100000 in
set_option maxHeartbeats 1000000 in
theorem frac_over1 (u v : Value) (n d : Nat) (w : World) (hx : Rd32 w u (dig n)) (hy : Rd32 w v (dig d)) (hl : (dig n).length ≤ 1073741824) (hd : 0 < d) (h1 : d < 4294967296 ∨ n < d) :
  Calls Tryz.prog 163 #[u, v] w (GivesQ2 w (n / d) (n % d)) := by
 have HX := hid hx
 have HY := hid hy
 have hcmp := frac_compare u v _ _ w hx hy
 rw [cmpL_dig] at hcmp
 clear hx hy
 by_cases hlt : n < d
 ·rw [sgn_lt hlt] at hcmp
  have HC := hid hcmp
  clear hcmp
  go_enter Tryz.func163, Tryz.ntmps163
  go_wp2_with fail
  refine HC.out.mono ?_
  rintro e w1 ⟨rfl, k1, rfl⟩
  go_wp2_with fail
  refine (frac_Clone u n _ HX.out.drewN hl).mono ?_
  rintro e w2 ⟨a2, c2, rfl, hr1, hr2, hb⟩
  have HR1 := hid hr1
  have HR2 := hid hr2
  have HB := hid hb
  clear hr1 hr2 hb
  go_wp2
  go_ret2
  have e1 : n / d = 0 := Nat.div_eq_of_lt hlt
  have e2 : n % d = n := Nat.mod_eq_of_lt hlt
  rw [e1, e2]
  exact ⟨none, 0, a2, c2, by rw [dig_zero]; rfl, by rw [dig_zero]; exact Rd32.nil _, HR1.out, fun R _ => Off.nil, HR2.out, (below_drewN (Below.refl _ _)).trans HB.out⟩
 ·have hd2 : d < 4294967296 := by omega
  have hcge : 0 ≤ sgn n d := sgn_nonneg.2 (by omega)
  generalize sgn n d = sg at *
  have HC := hid hcmp
  clear hcmp
  have hdd := dig_one_digit hd hd2
  have hy' := HY.out
  rw [hdd] at hy'
  obtain ⟨a', c', rfl, h3, h4, h5, h6⟩ := hy'
  obtain ⟨b, o, rfl, hb, hcell⟩ := h6 (by simp)
  have hcx := hcell 0 (by simp)
  simp only [List.getD_cons_zero, Nat.add_zero] at hcx
  clear h3 h4 h5 h6 hcell hdd
  go_enter Tryz.func163, Tryz.ntmps163
  go_wp2_with fail
  refine HC.out.mono ?_
  rintro e w1 ⟨rfl, k1, rfl⟩
  go_wp2_with fail
  refine (frac_short u (dig n) d _ HX.out.drewN hl hd hd2).mono ?_
  rintro e w2 ⟨a2, c2, rfl, hr1, hr2, hb2⟩
  rw [val_dig] at hr1 hr2
  rw [val_dig]
  have HR1 := hid hr1
  have HR2 := hid hr2
  have HB := hid hb2
  have hz2 := hb2.size
  simp at hz2
  clear hr1 hr2 hb2
  have hmod : n % d < d := Nat.mod_lt _ hd
  go_wp2_with fail
  have hn1 := Rd32.new1 w2 (n % d) 132 w2.heap.size rfl (by omega)
  have HN1 := hid hn1
  clear hn1
  refine (frac_trimmed _ [n % d] _ HN1.out).mono ?_
  rintro e w3 ⟨a3, c3, rfl, hv3, ho3, k3, rfl⟩
  have e3 : val [n % d] = n % d := by simp [val]
  rw [e3] at hv3 ho3
  rw [e3]
  have HV3 := hid (hv3 _ HN1.out)
  have HO3 := hid ho3
  clear hv3 ho3 e3
  go_wp2
  go_ret2
  exact ⟨a2, c2, a3, c3, by trivial, HR1.out.alloc.drewN, HV3.out.drewN, HR2.out, fun R hR => HO3.out R (Off.of_lt (by omega)), by have hb2 := HB.out; repeat' (first | (with_reducible exact Below.refl _ _) | (with_reducible assumption) | (with_reducible refine below_drewN ?_) | (with_reducible refine Below.alloc ?_ ?_ _) | (with_reducible refine Below.drew ?_) | (with_reducible refine Below.setCell ?_ ?_ _) | (with_reducible refine Below.trans ?_ (Below.mono (by with_reducible assumption) ?_)) | go_size)⟩
set_option maxHeartbeats 1000000 in
theorem frac_common1 (u v : Value) (A B : Nat) (w : World) (hx : Rd32 w u (dig A)) (hy : Rd32 w v (dig B)) (hl : (dig A).length ≤ 1073741824) (hB : B < 4294967296) :
    Calls Tryz.prog 116 #[u, v] w (GivesS [u, v] w (Nat.gcd A B)) := by
  have HU := hid (hx.holds [u, v] w.heap.size (by simp))
  have HV := hid (hy.holds [u, v] w.heap.size (by simp))
  obtain ⟨us, hus⟩ : ∃ us, us = [u, v] := ⟨_, rfl⟩
  rw [← hus] at HU HV
  have HUS := hid hus
  clear hus hx hy
  go_enter Tryz.func116, Tryz.ntmps116
  go_wp2
  go_loopg [0, 1] B (fun N p q wr => ∃ a b : Nat, b = N ∧ b < 4294967296 ∧ (dig a).length ≤ 1073741824 ∧ Nat.gcd a b = Nat.gcd A B ∧ HoldsZ us w.heap.size wr p a ∧ HoldsZ us w.heap.size wr q b ∧ Below w.heap.size w wr)
  case atStart => exact ⟨A, B, rfl, hB, hl, rfl, HU.out, HV.out, Below.refl _ _⟩
  case round =>
    clear HU HV
    obtain ⟨a, b, rfl, hb, hla, hg, hpa, hqb, hbl⟩ := hrel
    have HG := hid hg
    have HP := hid hpa
    have HQ := hid hqb
    have HB := hid hbl
    have hbs := hbl.size
    clear hg hpa hqb hbl
    obtain ⟨p2, L2, c2, rfl, hL2⟩ := HQ.out.len
    by_cases hb0 : 0 < b
    · have hl2 := hL2.2 hb0
      clear hL2
      go_wp2_with fail
      refine (frac_over1 _ _ a b _ HP.out.rd HQ.out.rd hla hb0 (.inl hb)).mono ?_
      rintro e w2 ⟨a1, c1, a2, c2', rfl, hr1, hr2, ho1, ho2, hb2⟩
      have HR2 := hid hr2
      have HO2 := hid ho2
      have HB2 := hid hb2
      clear hr1 hr2 ho1 ho2 hb2
      have hmod : a % b < b := Nat.mod_lt _ hb0
      go_wp2
      go_roundg (a % b)
      case measure => exact hmod
      case rel => exact ⟨b, a % b, rfl, by omega, by rw [dig_one_digit hb0 hb]; simp, by rw [← HG.out, Nat.gcd_comm a b, Nat.gcd_rec b a, Nat.gcd_comm], HQ.out.kept HB2.out, HoldsZ.of_gives hbs HR2.out HO2.out, HB.out.trans (HB2.out.mono hbs)⟩
    · obtain rfl : b = 0 := by omega
      have hL0 : L2 = 0 := by omega
      subst hL0
      have HG2 : Hid (a = Nat.gcd A B) := by have := HG.out; rwa [Nat.gcd_zero_right] at this
      clear hL2 HG
      go_wp2
      go_ret
      exact ⟨_, rfl, by rw [← HUS.out, ← HG2.out]; exact HP.out, HB.out⟩
end Go.Proofs.YtikiimlmoalbcaaGreatDoor.Fr

namespace Go.Proofs.YtikiimlmoalbcaaGreatDoor.Fr
open Go.RowKit
set_option maxHeartbeats 1000000 in
theorem frac_bigs2 (g : Nat) (n1 n2 : Bool) (xs1 xs2 : List Nat) (a1 a2 : Option Addr) (c1 c2 : Nat) (w : World) (hg : g < w.heap.size)
  (h0 : w.cell? ⟨g, 0, none⟩ = some (.bool n1)) (h1 : w.cell? ⟨g, 1, none⟩ = some (.slice a1 xs1.length c1)) (h2 : w.cell? ⟨g, 2, none⟩ = some (.bool n2)) (h3 : w.cell? ⟨g, 3, none⟩ = some (.slice a2 xs2.length c2))
  (hr1 : Rd32 w (.slice a1 xs1.length c1) xs1) (hr2 : Rd32 w (.slice a2 xs2.length c2) xs2) :
  Calls Tryz.prog 115 #[.slice (some ⟨g, 0, none⟩) 2 2] w (Ret w (.bool (okBig n1 xs1 && okBig n2 xs2))) := by
 have HR1 := hid hr1
 have HR2 := hid hr2
 have HV1 := hid (fun W (hb : Below w.heap.size w W) => frac_ValidBig (.agg #[.bool n1, .slice a1 xs1.length c1]) n1 xs1 W ⟨a1, c1, rfl, hr1.kept hb⟩)
 have HV2 := hid (fun W (hb : Below w.heap.size w W) => frac_ValidBig (.agg #[.bool n2, .slice a2 xs2.length c2]) n2 xs2 W ⟨a2, c2, rfl, hr2.kept hb⟩)
 clear hr1 hr2
 generalize xs1.length = l1 at *
 generalize xs2.length = l2 at *
 generalize okBig n1 xs1 = k1 at *
 generalize okBig n2 xs2 = k2 at *
 go_enter Tryz.func115, Tryz.ntmps115
 go_wp2
 refine wp_loop_rounds 3 ?_
 rw [rounds_succ]
 go_wp2_with fail
 refine (HV1.out _ (by repeat' (first | (with_reducible exact Below.refl _ _) | (with_reducible assumption) | (with_reducible refine below_drewN ?_) | (with_reducible refine Below.alloc ?_ ?_ _) | (with_reducible refine Below.drew ?_) | (with_reducible refine Below.setCell ?_ ?_ _) | (with_reducible refine Below.trans ?_ (Below.mono (by with_reducible assumption) ?_)) | go_size))).mono ?_
 rintro e w1 ⟨rfl, hb1⟩
 have HB1 := hid hb1
 have hz1 := hb1.size
 clear hb1
 simp at hz1
 have q2 := cell_later HB1.out (a := ⟨g, 2, none⟩) (v := .bool n2) (by go_cell)
 have q3 := cell_later HB1.out (a := ⟨g, 3, none⟩) (v := .slice a2 l2 c2) (by go_cell)
 cases k1
 ·go_wp2
  go_ret
  exact ⟨by simp, by have hb1 := HB1.out; repeat' (first | (with_reducible exact Below.refl _ _) | (with_reducible assumption) | (with_reducible refine below_drewN ?_) | (with_reducible refine Below.alloc ?_ ?_ _) | (with_reducible refine Below.drew ?_) | (with_reducible refine Below.setCell ?_ ?_ _) | (with_reducible refine Below.trans ?_ (Below.mono (by with_reducible assumption) ?_)) | go_size)⟩
 ·go_wp2
  rw [rounds_succ]
  go_wp2_with fail
  have hbA : Below w.heap.size w w1 := by have hb1 := HB1.out; repeat' (first | (with_reducible exact Below.refl _ _) | (with_reducible assumption) | (with_reducible refine below_drewN ?_) | (with_reducible refine Below.alloc ?_ ?_ _) | (with_reducible refine Below.drew ?_) | (with_reducible refine Below.setCell ?_ ?_ _) | (with_reducible refine Below.trans ?_ (Below.mono (by with_reducible assumption) ?_)) | go_size)
  refine (HV2.out _ (by repeat' (first | (with_reducible exact Below.refl _ _) | (with_reducible assumption) | (with_reducible refine below_drewN ?_) | (with_reducible refine Below.alloc ?_ ?_ _) | (with_reducible refine Below.drew ?_) | (with_reducible refine Below.setCell ?_ ?_ _) | (with_reducible refine Below.trans ?_ (Below.mono (by with_reducible assumption) ?_)) | go_size))).mono ?_
  rintro e w2 ⟨rfl, hb2⟩
  have HB2 := hid hb2
  have HBA := hid hbA
  have hz2 := hb2.size
  clear hb2 hbA
  simp at hz2
  cases k2
  ·go_wp2
   go_ret
   exact ⟨by simp, by have hb1 := HBA.out; have hb2 := HB2.out; repeat' (first | (with_reducible exact Below.refl _ _) | (with_reducible assumption) | (with_reducible refine below_drewN ?_) | (with_reducible refine Below.alloc ?_ ?_ _) | (with_reducible refine Below.drew ?_) | (with_reducible refine Below.setCell ?_ ?_ _) | (with_reducible refine Below.trans ?_ (Below.mono (by with_reducible assumption) ?_)) | go_size)⟩
  ·go_wp2
   rw [rounds_succ]
   go_wp2
   go_ret
   exact ⟨by simp, by have hb1 := HBA.out; have hb2 := HB2.out; repeat' (first | (with_reducible exact Below.refl _ _) | (with_reducible assumption) | (with_reducible refine below_drewN ?_) | (with_reducible refine Below.alloc ?_ ?_ _) | (with_reducible refine Below.drew ?_) | (with_reducible refine Below.setCell ?_ ?_ _) | (with_reducible refine Below.trans ?_ (Below.mono (by with_reducible assumption) ?_)) | go_size)⟩
theorem okBig_dig (neg : Bool) (n : Nat) (hn : n < 4294967296 ^ 256) (h0 : n = 0 → neg = false) : okBig neg (dig n) = true := by
  unfold okBig
  have hl := dig_length_le hn
  by_cases hz : n = 0
  · subst hz
    rw [dig_zero]; simp [h0 rfl]
  · have h1 := lead_dig n (dig_length_pos.2 (by omega))
    have h2 := dig_length_pos.2 (show 0 < n by omega)
    simp only [decide_eq_true_eq]
    exact ⟨hl, .inr ⟨h2, h1⟩⟩
theorem okBig_false (n : Nat) (hn : (dig n).length ≤ 256) : okBig false (dig n) = true := by
  unfold okBig
  by_cases hz : n = 0
  · subst hz
    rw [dig_zero]; simp
  · have h1 := lead_dig n (dig_length_pos.2 (by omega))
    have h2 := dig_length_pos.2 (show 0 < n by omega)
    simp only [decide_eq_true_eq]
    exact ⟨hn, .inr ⟨h2, h1⟩⟩
theorem dig_length_64 {n : Nat} (h : n < 18446744073709551616) : (dig n).length ≤ 2 := dig_length_le (k := 2) (by omega)
set_option maxHeartbeats 1000000 in
theorem frac_FromInt (n : Nat) (w : World) (h : n < 9223372036854775808) :
    Calls Tryz.prog 146 #[.int .i64 (n : Int)] w (GivesZ [] w false n) := by
  have hl : (dig n).length ≤ 1073741824 := Nat.le_trans (dig_length_64 (by omega)) (by omega)
  go_enter Tryz.func146, Tryz.ntmps146
  go_wp2_with fail
  refine (frac_natural n _ (by omega)).mono ?_
  rintro e w1 ⟨a1, c1, rfl, hr1, ho1, hb1⟩
  have HR1 := hid hr1
  have HB1 := hid hb1
  have hz1 := hb1.size
  have q0 := cell_later hb1 (a := ⟨w.heap.size, 0, none⟩) (v := .bool false) (by go_cell)
  have q1 := cell_later hb1 (a := ⟨w.heap.size, 1, none⟩) (v := .slice none 0 0) (by go_cell)
  have f0 := frozen_later hb1 (a := ⟨w.heap.size, 0, none⟩) (v := .bool false) (by go_cell) (by simp [go_sem])
  have f1 := frozen_later hb1 (a := ⟨w.heap.size, 1, none⟩) (v := .slice none 0 0) (by go_cell) (by simp [go_sem])
  clear hr1 ho1 hb1
  simp at hz1
  go_wp2_with fail
  refine (frac_signed false _ n _ HR1.out hl).mono ?_
  rintro e w2 ⟨a2, c2, rfl, hr2, ho2, hb2⟩
  have HR2 := hid hr2
  have HO2 := hid (fun R hR => ho2 R hR (fun u hu => by cases hu))
  have HB2 := hid hb2
  have hz2 := hb2.size
  have q2 := cell_later hb2 q0
  have q3 := cell_later hb2 q1
  have f2 := frozen_later hb2 q0 f0
  have f3 := frozen_later hb2 q1 f1
  clear hr2 ho2 hb2
  go_wp2
  refine bodyPost_ret (by simp [results, Tryz.results146, go_sem, q2, q3]; rfl) rfl ?_
  exact ⟨a2, c2, by trivial, (HR2.out.setCell (HO2.out _ (by simp; omega))).setCell (HO2.out _ (by simp; omega)), fun R hR _ => HO2.out R (by omega), by have hb1 := HB1.out; have hb2 := HB2.out; repeat' (first | (with_reducible exact Below.refl _ _) | (with_reducible assumption) | (with_reducible refine below_drewN ?_) | (with_reducible refine Below.alloc ?_ ?_ _) | (with_reducible refine Below.drew ?_) | (with_reducible refine Below.setCell ?_ ?_ _) | (with_reducible refine Below.trans ?_ (Below.mono (by with_reducible assumption) ?_)) | go_size)⟩
end Go.Proofs.YtikiimlmoalbcaaGreatDoor.Fr
