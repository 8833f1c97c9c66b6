/- Contracts of package fraction: signed, compare, Div32, short. -/
import Derived.Test.YtfcccldofaleoaaGreatDoorFa
import Derived.Test.YtfcccldofaleoaaGreatDoorApp
namespace Go.Proofs.YtfcccldofaleoaaGreatDoor.Fr
open Go.RowKit

/-- the source of an append, out of what reads as digits -/
theorem Rd32.src {w : World} {a : Option Addr} {n c : Nat} {xs : List Nat} (h : Rd32 w (.slice a n c) xs) :
    (xs.map U32).length = n * 1 ∧ (0 < n → ∃ ad, a = some ad ∧ ∀ j u, (xs.map U32)[j]? = some u → w.cell? (ad.add j) = some u) := by
  obtain ⟨a', c', e, h1, h2, h3, h4⟩ := h
  obtain ⟨rfl, rfl, rfl⟩ := Value.slice.inj e
  refine ⟨by simp, fun hn => ?_⟩
  obtain ⟨b, o, rfl, h5, h6⟩ := h4 hn
  exact ⟨_, rfl, Rd32.news (n := 0) (c := 0) h6⟩

set_option maxHeartbeats 1000000 in
theorem frac_signed (neg : Bool) (u : Value) (n : Nat) (w : World) (hx : Rd32 w u (dig n)) (hl : (dig n).length ≤ 1073741824) :
    Calls Tryz.prog 140 #[.bool neg, u] w (GivesZ [] w neg n) := by
  obtain ⟨i0, hi, hz0, hz1, hz2⟩ := info_parts info_u32
  have hx' := hx
  obtain ⟨a, c, rfl, _⟩ := hx
  have HX := hid hx'
  have hsrc := (hx'.alloc (o := .cells #[.bool false, .slice none 0 0] 47)).src
  have HS := hid hsrc
  have HP := hid (@dig_length_pos n)
  have HD := hid (digs_dig n)
  clear hsrc hx'
  generalize hL : (dig n).length = L at *
  have HLL := hid hL
  clear hL
  by_cases hn : 0 < L
  all_goals
    cases neg
    all_goals
      go_enter Tryz.func140, Tryz.ntmps140
      go_wp2_with (at_builtin; refine wpList_append_any _ rfl _ _ 45 176 rfl (w.heap.size + 1) 133 133 i0 (.int .u32 0) 1 4 Tryz.underlying45 Tryz.underlying176 hi hz0 hz1 hz2 rfl (by decide) (.slice none 0 0) 0 [] rfl (World.ownsRow_nil _ _ _ _) a L c ((dig n).map U32) rfl HS.out.1 HS.out.2 (u32_one _) (by unfold maxLen; omega) (by omega) (by go_size) ?_)
      intro v' w1 hown hgrow _
      obtain ⟨hr1, hr2, _, a2, c2, rfl⟩ := rd_of_owns hown HD.out
      have q0 : w1.cell? ⟨w.heap.size, 0, none⟩ = some (.bool false) := hgrow.cell (by simp) (by simp [Value.ownBlock])
      have q1 : w1.cell? ⟨w.heap.size, 1, none⟩ = some (.slice none 0 0) := hgrow.cell (by simp) (by simp [Value.ownBlock])
      have f0 : w1.frozen? ⟨w.heap.size, 0, none⟩ = false := (World.frozen?_of_block (hgrow.block w.heap.size (by simp) (by simp [Value.ownBlock]))).trans (by simp)
      have f1 : w1.frozen? ⟨w.heap.size, 1, none⟩ = false := (World.frozen?_of_block (hgrow.block w.heap.size (by simp) (by simp [Value.ownBlock]))).trans (by simp)
      have hbl : Below w.heap.size w w1 := ((Below.refl _ w).alloc (Nat.le_refl _) _).grown hgrow (by simp) (fun k hk => by cases hk)
      have HR1 := hid hr1
      have HR2 := hid hr2
      have HB := hid hbl
      clear hr1 hr2 hown hgrow hbl
      go_wp2
      refine bodyPost_ret (by simp [results, Tryz.results140, go_sem, q0, q1]; rfl) rfl ?_
      have e : decide (0 < n) = decide (0 < L) := by have := HP.out; simp [this]
      refine ⟨a2, c2, by rw [HLL.out, e]; simp [hn], ?_, ?_, (HB.out.setCell (Nat.le_refl _) _).setCell (Nat.le_refl _) _⟩
      · rw [HLL.out]; exact (HR1.out.setCell (HR2.out _ (by simp))).setCell (HR2.out _ (by simp))
      · rw [HLL.out]; exact fun R hR _ => HR2.out R (by omega)

set_option maxHeartbeats 400000 in
theorem frac_compare (u v : Value) (xs ys : List Nat) (w : World) (hx : Rd32 w u xs) (hy : Rd32 w v ys) :
    Calls Tryz.prog 165 #[u, v] w (Quiet w (.int .i64 (cmpL xs ys))) := by
  obtain ⟨a, c, rfl, hc, hm, hxr, hxc⟩ := hx
  obtain ⟨a', c', rfl, hc', hm', hyr, hyc⟩ := hy
  obtain ⟨n, hn⟩ : ∃ n, n = xs.length := ⟨_, rfl⟩
  obtain ⟨n', hn'⟩ : ∃ n, n = ys.length := ⟨_, rfl⟩
  have HF : Hid (cmpL xs ys = if n = n' then cmpTop xs ys n else if n < n' then -1 else 1) := by simp [Hid, cmpL, hn, hn']
  generalize cmpL xs ys = F at *
  rw [← hn] at hc hxc ⊢
  rw [← hn'] at hc' hyc ⊢
  clear hn hn'
  unfold maxLen at hm hm'
  have hC := Compare_int (n : Int) (n' : Int)
  rw [isgn_nat] at hC
  by_cases hl : n = n'
  · subst hl
    have HF' := HF.out
    rw [if_pos rfl] at HF'
    have HF2 := hid HF'
    rw [sgn_self] at hC
    have HC := hid hC
    clear HF' HF hC
    go_enter Tryz.func165, Tryz.ntmps165
    go_wp2_with (first | (go_at_call 97; refine (HC.out _).mono ?_; rintro e w' ⟨rfl, rfl⟩))
    go_loopg [6] n (fun N i w' => ∃ k : Nat, k = N ∧ k ≤ n ∧ i = .int .i64 ((k : Int) - 1) ∧ F = cmpTop xs ys k ∧ ∃ m, w' = w.drewN m)
    case atStart => exact ⟨n, rfl, Nat.le_refl _, rfl, HF2.out, 0, rfl⟩
    case round =>
      clear HF2 HC
      obtain ⟨k, rfl, hk, rfl, hf, m, rfl⟩ := hrel
      have HC := hid hf
      clear hf
      rcases k with _ | k
      · go_wp2
        go_ret
        exact ⟨ret_int HC.out.symm, _, rfl⟩
      · obtain ⟨b, o, rfl, hb, hcell⟩ := hxc (by omega)
        obtain ⟨b', o', rfl, hb', hcell'⟩ := hyc (by omega)
        have h1 : (w.drewN m).cell? ⟨b, o + k, none⟩ = _ := hcell k (by omega)
        have h2 : (w.drewN m).cell? ⟨b', o' + k, none⟩ = _ := hcell' k (by omega)
        have e1 : ((k + 1 : Nat) : Int) - 1 = (k : Int) := by omega
        rw [e1]
        obtain ⟨W, hW⟩ : ∃ W, w.drewN m = W := ⟨_, rfl⟩
        rw [hW] at h1 h2 ⊢
        have HW := hid hW
        clear hW
        have hF := HC.out
        rw [cmpTop] at hF
        generalize hX : xs.getD k 0 = x at *
        generalize hY : ys.getD k 0 = y at *
        have HF3 := hid hF
        have hC := Compare_u32 (x : Int) (y : Int)
        rw [isgn_nat] at hC
        clear hcell hcell' hF hX hY HC hxc hyc
        by_cases hlt : x < y
        · rw [sgn_lt hlt] at hC
          have HC := hid hC
          clear hC
          go_wp2
          go_quiet ((go_at_call 183; exact Calls.quiet_of_same ((HC.out _).mono (fun _ _ h => ⟨h.1, h.2.symm⟩))))
          go_wp2
          go_ret
          exact ⟨ret_int (by rw [HF3.out, if_pos hlt]), _, by rw [← HW.out, World.drewN_drewN]⟩
        · by_cases hgt : y < x
          · rw [sgn_gt hgt] at hC
            have HC := hid hC
            clear hC
            go_wp2
            go_quiet ((go_at_call 183; exact Calls.quiet_of_same ((HC.out _).mono (fun _ _ h => ⟨h.1, h.2.symm⟩))))
            go_wp2
            go_ret
            exact ⟨ret_int (by rw [HF3.out, if_neg hlt, if_pos hgt]), _, by rw [← HW.out, World.drewN_drewN]⟩
          · rw [show x = y from by omega, sgn_self] at hC
            rw [show x = y from by omega] at h1
            have HC := hid hC
            clear hC
            go_wp2
            go_quiet ((go_at_call 183; exact Calls.quiet_of_same ((HC.out _).mono (fun _ _ h => ⟨h.1, h.2.symm⟩))))
            go_wp2
            go_roundg k
            case measure => omega
            case rel => exact ⟨k, rfl, by omega, rfl, by rw [HF3.out, if_neg hlt, if_neg hgt], _, by rw [← HW.out, World.drewN_drewN]⟩
  · have hF := HF.out
    rw [if_neg hl] at hF
    have HF2 := hid hF
    clear hF HF
    by_cases hlt : n < n'
    · rw [sgn_lt hlt] at hC
      have HC := hid hC
      clear hC
      go_enter Tryz.func165, Tryz.ntmps165
      go_wp2_with (first | (go_at_call 97; refine (HC.out _).mono ?_; rintro e w' ⟨rfl, rfl⟩))
      go_ret
      exact ⟨ret_int (by rw [HF2.out, if_pos hlt]), 0, rfl⟩
    · rw [sgn_gt (by omega)] at hC
      have HC := hid hC
      clear hC
      go_enter Tryz.func165, Tryz.ntmps165
      go_wp2_with (first | (go_at_call 97; refine (HC.out _).mono ?_; rintro e w' ⟨rfl, rfl⟩))
      go_ret
      exact ⟨ret_int (by rw [HF2.out, if_neg hlt]), 0, rfl⟩

def QuietQR (w : World) (q r : Nat) (e : Ending) (w' : World) : Prop := e = .returned (.tuple #[.int .u32 (q : Int), .int .u32 (r : Int)]) ∧ ∃ k, w' = w.drewN k

set_option maxHeartbeats 400000 in
theorem Div32_of (hi lo d : Nat) (w : World) (h1 : hi < d) (h2 : lo < 4294967296) (h3 : d < 4294967296) :
    Calls Tryz.prog 189 #[.int .u32 (hi : Int), .int .u32 (lo : Int), .int .u32 (d : Int)] w (QuietQR w ((hi * 4294967296 + lo) / d) ((hi * 4294967296 + lo) % d)) := by
  have hor : bits BinOp.or IntKind.u64 ((hi : Int) * 4294967296) (lo : Int) = ((hi * 4294967296 + lo : Nat) : Int) := by
    rw [show ((hi : Int) * 4294967296) = ((hi * 4294967296 : Nat) : Int) from by omega, u64_or_nat _ _ (by omega) (by omega), nat_join32 _ _ (by omega) (by omega)]
  have hq : (hi * 4294967296 + lo) / d < 4294967296 := by
    rw [Nat.div_lt_iff_lt_mul (by omega)]
    have : (hi + 1) * 4294967296 ≤ d * 4294967296 := Nat.mul_le_mul_right _ (by omega)
    omega
  have hr : (hi * 4294967296 + lo) % d < d := Nat.mod_lt _ (by omega)
  have ht : hi * 4294967296 + lo < 18446744073709551616 := by omega
  generalize hi * 4294967296 + lo = t at *
  have hdne : ((d : Int) != 0) = true := by simp; omega
  have hq' : ((t : Int) / (d : Int)) = ((t / d : Nat) : Int) := by rw [Int.natCast_ediv]
  have hr' : ((t : Int) % (d : Int)) = ((t % d : Nat) : Int) := by rw [Int.natCast_emod]
  generalize hqv : t / d = q at *
  generalize hrv : t % d = r at *
  clear hqv hrv
  go_enter Tryz.func189, Tryz.ntmps189
  go_wp2
  go_quiet (fail)
  go_wp2
  go_ret2
  exact ⟨by trivial, _, rfl⟩

end Go.Proofs.YtfcccldofaleoaaGreatDoor.Fr
