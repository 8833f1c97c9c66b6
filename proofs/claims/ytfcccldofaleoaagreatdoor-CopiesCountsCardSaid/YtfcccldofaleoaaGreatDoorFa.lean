/- Contracts of package fraction's words: isNaN, Compare, compare, trimmed, ValidBig, natural. -/
import Derived.Test.YtfcccldofaleoaaGreatDoorRb
namespace Go.Proofs.YtfcccldofaleoaaGreatDoor.Fr
open Go.RowKit

set_option maxHeartbeats 400000 in
theorem frac_trimmed (u : Value) (xs : List Nat) (w : World) (hx : Rd32 w u xs) :
    Calls Tryz.prog 164 #[u] w (QuietDig w u xs) := by
  obtain ⟨a, c, rfl, hc, hm, hxr, hxc⟩ := hx
  have HT := hid (take_trimK hxr)
  have HL := hid (trimK_length hxr)
  have HR : Hid (∀ W, Rd32 W (.slice a xs.length c) xs → ∀ k, k ≤ xs.length → Rd32 W (.slice a k c) (xs.take k)) := fun W h k hk => h.take k hk
  clear hxr
  generalize hV : val xs = V at *
  obtain ⟨n, hn⟩ : ∃ n, n = xs.length := ⟨_, rfl⟩
  rw [← hn] at hc hxc HR HT HL
  have HN := hid hn
  have HVV := hid hV
  rw [show Value.slice a xs.length c = Value.slice a n c from by rw [hn]]
  clear hn hV
  unfold maxLen at hm
  go_enter Tryz.func164, Tryz.ntmps164
  go_wp2
  go_loopw [0] (fun v w' => ∃ k : Nat, k ≤ n ∧ v = .slice a k c ∧ trimK xs n = trimK xs k ∧ w' = w) (fun v _ => slen v)
  case atStart => exact ⟨n, Nat.le_refl _, rfl, rfl, rfl⟩
  case round =>
    obtain ⟨k, hk, rfl, hf, rfl⟩ := hrel
    have HC := hid hf
    clear hf
    rcases k with _ | k
    · go_wp2
      go_ret
      have e0 : (dig (val xs)).length = 0 := by rw [HVV.out, ← HL.out, HC.out]; rfl
      exact ⟨_, _, by rw [e0]; rfl, fun W hW => by have := HR.out W hW 0 (by omega); rw [e0, HVV.out, ← HT.out, HC.out]; exact this, fun R h => by rw [e0]; exact h.take (by omega), 0, rfl⟩
    · obtain ⟨b, o, rfl, hb, hcell⟩ := hxc (by omega)
      have h1 := hcell k (by omega)
      have hF := HC.out
      rw [trimK] at hF
      generalize hX : xs.getD k 0 = x at *
      have HF3 := hid hF
      clear hcell hF HC hxc hX
      have e1 : ((k + 1 : Nat) : Int) - 1 = (k : Int) := by omega
      by_cases hz : x = 0
      · go_wp2
        go_roundw
        case rel => exact ⟨k, by omega, rfl, by rw [HF3.out, if_pos hz], by trivial⟩
        case measure => simp [slen]
      · go_wp2
        go_ret
        have e0 : (dig (val xs)).length = k + 1 := by rw [HVV.out, ← HL.out, HF3.out, if_neg hz]
        exact ⟨_, _, by rw [e0]; rfl, fun W hW => by have := HR.out W hW (k + 1) (by omega); rw [e0, HVV.out, ← HT.out, HF3.out, if_neg hz]; exact this, fun R h => by rw [e0]; exact h.take (by omega), 0, rfl⟩


set_option maxRecDepth 100000 in
set_option maxHeartbeats 400000 in
theorem frac_ValidBig (v : Value) (neg : Bool) (xs : List Nat) (w : World) (hx : RdB w v neg xs) :
    Calls Tryz.prog 161 #[v] w (Ret w (.bool (okBig neg xs))) := by
  obtain ⟨a, c, rfl, hx⟩ := hx
  obtain ⟨a', c', e, hc, hm, hxr, hxc⟩ := hx
  obtain ⟨rfl, _, rfl⟩ := Value.slice.inj e
  clear e
  obtain ⟨n, hn⟩ : ∃ n, n = xs.length := ⟨_, rfl⟩
  have HF : Hid (okBig neg xs = decide (n ≤ 256 ∧ (n = 0 ∧ neg = false ∨ 0 < n ∧ xs.getD (n - 1) 0 ≠ 0))) := by simp [Hid, okBig, hn]
  generalize okBig neg xs = F at *
  rw [← hn] at hc hxc ⊢
  clear hn hxr
  unfold maxLen at hm
  rcases n with _ | n
  · cases neg
    · go_enter Tryz.func161, Tryz.ntmps161
      go_wp2
      go_ret
      exact ⟨ret_bool (by rw [HF.out]; simp), by repeat' (first | (with_reducible exact Below.refl _ _) | (with_reducible assumption) | (with_reducible refine below_drewN ?_) | (with_reducible refine Below.alloc ?_ ?_ _) | (with_reducible refine Below.drew ?_) | (with_reducible refine Below.setCell ?_ ?_ _) | (with_reducible refine Below.trans ?_ (Below.mono (by with_reducible assumption) ?_)) | go_size)⟩
    · go_enter Tryz.func161, Tryz.ntmps161
      go_wp2
      go_ret
      exact ⟨ret_bool (by rw [HF.out]; simp), by repeat' (first | (with_reducible exact Below.refl _ _) | (with_reducible assumption) | (with_reducible refine below_drewN ?_) | (with_reducible refine Below.alloc ?_ ?_ _) | (with_reducible refine Below.drew ?_) | (with_reducible refine Below.setCell ?_ ?_ _) | (with_reducible refine Below.trans ?_ (Below.mono (by with_reducible assumption) ?_)) | go_size)⟩
  · obtain ⟨b, o, rfl, hb, hcell⟩ := hxc (by omega)
    have h1 := hcell n (by omega)
    have HF2 := HF.out
    rw [show n + 1 - 1 = n from rfl] at HF2
    generalize xs.getD n 0 = x at *
    have HF3 := hid HF2
    clear HF2 HF hxc hcell
    have e1 : ((n + 1 : Nat) : Int) - 1 = (n : Int) := by omega
    by_cases hle : n + 1 ≤ 256
    · have hne : (((n + 1 : Nat) : Int) == 0) = false := by simp; omega
      by_cases hz : x = 0
      · subst hz
        go_enter Tryz.func161, Tryz.ntmps161
        go_wp2
        go_ret
        exact ⟨ret_bool (by rw [HF3.out]; simp), by repeat' (first | (with_reducible exact Below.refl _ _) | (with_reducible assumption) | (with_reducible refine below_drewN ?_) | (with_reducible refine Below.alloc ?_ ?_ _) | (with_reducible refine Below.drew ?_) | (with_reducible refine Below.setCell ?_ ?_ _) | (with_reducible refine Below.trans ?_ (Below.mono (by with_reducible assumption) ?_)) | go_size)⟩
      · have hne2 : (((x : Nat) : Int) != 0) = true := by simp; omega
        have HZ := hid hz
        clear hz
        go_enter Tryz.func161, Tryz.ntmps161
        go_wp2
        go_ret
        exact ⟨ret_bool (by rw [HF3.out]; have := HZ.out; simp; omega), by repeat' (first | (with_reducible exact Below.refl _ _) | (with_reducible assumption) | (with_reducible refine below_drewN ?_) | (with_reducible refine Below.alloc ?_ ?_ _) | (with_reducible refine Below.drew ?_) | (with_reducible refine Below.setCell ?_ ?_ _) | (with_reducible refine Below.trans ?_ (Below.mono (by with_reducible assumption) ?_)) | go_size)⟩
    · go_enter Tryz.func161, Tryz.ntmps161
      go_wp2
      go_ret
      exact ⟨ret_bool (by rw [HF3.out]; simp; omega), by repeat' (first | (with_reducible exact Below.refl _ _) | (with_reducible assumption) | (with_reducible refine below_drewN ?_) | (with_reducible refine Below.alloc ?_ ?_ _) | (with_reducible refine Below.drew ?_) | (with_reducible refine Below.setCell ?_ ?_ _) | (with_reducible refine Below.trans ?_ (Below.mono (by with_reducible assumption) ?_)) | go_size)⟩


set_option maxHeartbeats 400000 in
theorem isNaN_int (n : Int) (w : World) : Calls Tryz.prog 126 #[.int .i64 n] w (fun e w' => e = .returned (.bool false) ∧ w = w') := by
  go_enter Tryz.func126, Tryz.ntmps126
  go_wp2
  go_ret
  exact ⟨ret_bool (by simp), rfl⟩
set_option maxHeartbeats 400000 in
theorem isNaN_u32 (n : Int) (w : World) : Calls Tryz.prog 190 #[.int .u32 n] w (fun e w' => e = .returned (.bool false) ∧ w = w') := by
  go_enter Tryz.func190, Tryz.ntmps190
  go_wp2
  go_ret
  exact ⟨ret_bool (by simp), rfl⟩

def isgn (a b : Int) : Int := if a < b then -1 else if b < a then 1 else 0
theorem isgn_lt {a b : Int} (h : a < b) : isgn a b = -1 := by unfold isgn; rw [if_pos h]
theorem isgn_gt {a b : Int} (h : b < a) : isgn a b = 1 := by unfold isgn; rw [if_neg (by omega), if_pos h]
theorem isgn_eq {a b : Int} (h : a = b) : isgn a b = 0 := by unfold isgn; rw [if_neg (by omega), if_neg (by omega)]
theorem isgn_nat (a b : Nat) : isgn (a : Int) (b : Int) = sgn a b := by
  unfold isgn sgn
  by_cases h : a < b
  · rw [if_pos h, if_pos (by omega)]
  · rw [if_neg h, if_neg (by omega)]
    by_cases h2 : b < a
    · rw [if_pos h2, if_pos (by omega)]
    · rw [if_neg h2, if_neg (by omega)]
set_option maxHeartbeats 400000 in
theorem Compare_int (a b : Int) (w : World) : Calls Tryz.prog 97 #[.int .i64 a, .int .i64 b] w (fun e w' => e = .returned (.int .i64 (isgn a b)) ∧ w = w') := by
  by_cases h : a < b
  · go_enter Tryz.func97, Tryz.ntmps97
    go_wp2_with (first | (go_at_call 126; refine (isNaN_int _ _).mono ?_; rintro e w' ⟨rfl, rfl⟩))
    go_ret
    exact ⟨ret_int (isgn_lt (by omega)).symm, rfl⟩
  · by_cases h2 : b < a
    · go_enter Tryz.func97, Tryz.ntmps97
      go_wp2_with (first | (go_at_call 126; refine (isNaN_int _ _).mono ?_; rintro e w' ⟨rfl, rfl⟩))
      go_ret
      exact ⟨ret_int (isgn_gt (by omega)).symm, rfl⟩
    · go_enter Tryz.func97, Tryz.ntmps97
      go_wp2_with (first | (go_at_call 126; refine (isNaN_int _ _).mono ?_; rintro e w' ⟨rfl, rfl⟩))
      go_ret
      exact ⟨ret_int (isgn_eq (by omega)).symm, rfl⟩
set_option maxHeartbeats 400000 in
theorem Compare_u32 (a b : Int) (w : World) : Calls Tryz.prog 183 #[.int .u32 a, .int .u32 b] w (fun e w' => e = .returned (.int .i64 (isgn a b)) ∧ w = w') := by
  by_cases h : a < b
  · go_enter Tryz.func183, Tryz.ntmps183
    go_wp2_with (first | (go_at_call 190; refine (isNaN_u32 _ _).mono ?_; rintro e w' ⟨rfl, rfl⟩))
    go_ret
    exact ⟨ret_int (isgn_lt (by omega)).symm, rfl⟩
  · by_cases h2 : b < a
    · go_enter Tryz.func183, Tryz.ntmps183
      go_wp2_with (first | (go_at_call 190; refine (isNaN_u32 _ _).mono ?_; rintro e w' ⟨rfl, rfl⟩))
      go_ret
      exact ⟨ret_int (isgn_gt (by omega)).symm, rfl⟩
    · go_enter Tryz.func183, Tryz.ntmps183
      go_wp2_with (first | (go_at_call 190; refine (isNaN_u32 _ _).mono ?_; rintro e w' ⟨rfl, rfl⟩))
      go_ret
      exact ⟨ret_int (isgn_eq (by omega)).symm, rfl⟩

set_option maxHeartbeats 400000 in
theorem frac_natural (n : Nat) (w : World) (h : n < 18446744073709551616) :
    Calls Tryz.prog 141 #[.int .u64 (n : Int)] w (GivesD w n) := by
  go_enter Tryz.func141, Tryz.ntmps141
  go_wp2_with fail
  rw [show ((n : Int) / 4294967296) = ((n / 4294967296 : Nat) : Int) from by omega, show ((n : Int) % 4294967296) = ((n % 4294967296 : Nat) : Int) from by omega]
  have hr := Rd32.new2 w (n % 4294967296) (n / 4294967296) 133 w.heap.size rfl (by omega) (by omega)
  with_reducible refine (frac_trimmed _ _ _ hr).mono ?_
  rintro e w1 ⟨a, c, rfl, hv, ho, k, rfl⟩
  rw [val_two' n] at hv ho
  rw [val_two' n]
  have HV := hid (hv _ hr)
  have HO := hid ho
  clear hv ho hr
  go_wp2
  go_ret
  exact ⟨_, _, rfl, HV.out, fun R hR => HO.out R (Off.of_lt hR), by repeat' (first | (with_reducible exact Below.refl _ _) | (with_reducible assumption) | (with_reducible refine below_drewN ?_) | (with_reducible refine Below.alloc ?_ ?_ _) | (with_reducible refine Below.drew ?_) | (with_reducible refine Below.setCell ?_ ?_ _) | (with_reducible refine Below.trans ?_ (Below.mono (by with_reducible assumption) ?_)) | go_size)⟩

end Go.Proofs.YtfcccldofaleoaaGreatDoor.Fr
