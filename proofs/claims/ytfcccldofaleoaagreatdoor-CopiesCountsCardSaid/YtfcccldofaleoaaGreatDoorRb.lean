/- Contracts of the reference's arithmetic: ValidBig, FromInt, Minus, Whole. -/
import Derived.Test.YtfcccldofaleoaaGreatDoorRa
namespace Go.Proofs.YtfcccldofaleoaaGreatDoor.Fr
open Go.RowKit

/-- A big integer that came in: its sign and its words. -/
def RdB (w : World) (v : Value) (neg : Bool) (xs : List Nat) : Prop := ∃ a c, v = .agg #[.bool neg, .slice a xs.length c] ∧ Rd32 w (.slice a xs.length c) xs

/-- P1.1 -/
def okBig (neg : Bool) (xs : List Nat) : Bool := decide (xs.length ≤ 256 ∧ (xs.length = 0 ∧ neg = false ∨ 0 < xs.length ∧ xs.getD (xs.length - 1) 0 ≠ 0))

set_option maxRecDepth 100000 in
set_option maxHeartbeats 400000 in
theorem ref_ValidBig (v : Value) (neg : Bool) (xs : List Nat) (w : World) (hx : RdB w v neg xs) :
    Calls Tryz.prog 85 #[v] w (Ret w (.bool (okBig neg xs))) := by
  obtain ⟨a, c, rfl, hx⟩ := hx
  obtain ⟨a', c', e, hc, hm, hxr, hxc⟩ := hx
  obtain ⟨rfl, _, rfl⟩ := Value.slice.inj e
  clear e
  obtain ⟨n, hn⟩ : ∃ n, n = xs.length := ⟨_, rfl⟩
  have HF : Hid (okBig neg xs = decide (n ≤ 256 ∧ (n = 0 ∧ neg = false ∨ 0 < n ∧ xs.getD (n - 1) 0 ≠ 0))) := by simp [Hid, okBig, hn]
  generalize okBig neg xs = F at *
  rw [← hn] at hc hxc ⊢
  clear hn hxr
  unfold maxLen at hm
  rcases n with _ | n
  · cases neg
    · go_enter Tryz.func85, Tryz.ntmps85
      go_wp2
      go_ret
      exact ⟨ret_bool (by rw [HF.out]; simp), by repeat' (first | (with_reducible exact Below.refl _ _) | (with_reducible assumption) | (with_reducible refine below_drewN ?_) | (with_reducible refine Below.alloc ?_ ?_ _) | (with_reducible refine Below.drew ?_) | (with_reducible refine Below.setCell ?_ ?_ _) | (with_reducible refine Below.trans ?_ (Below.mono (by with_reducible assumption) ?_)) | go_size)⟩
    · go_enter Tryz.func85, Tryz.ntmps85
      go_wp2
      go_ret
      exact ⟨ret_bool (by rw [HF.out]; simp), by repeat' (first | (with_reducible exact Below.refl _ _) | (with_reducible assumption) | (with_reducible refine below_drewN ?_) | (with_reducible refine Below.alloc ?_ ?_ _) | (with_reducible refine Below.drew ?_) | (with_reducible refine Below.setCell ?_ ?_ _) | (with_reducible refine Below.trans ?_ (Below.mono (by with_reducible assumption) ?_)) | go_size)⟩
  · obtain ⟨b, o, rfl, hb, hcell⟩ := hxc (by omega)
    have h1 := hcell n (by omega)
    have HF2 := HF.out
    rw [show n + 1 - 1 = n from rfl] at HF2
    generalize xs.getD n 0 = x at *
    have HF3 := hid HF2
    clear HF2 HF hxc hcell
    have e1 : ((n + 1 : Nat) : Int) - 1 = (n : Int) := by omega
    by_cases hle : n + 1 ≤ 256
    · have hne : (((n + 1 : Nat) : Int) == 0) = false := by simp; omega
      by_cases hz : x = 0
      · subst hz
        go_enter Tryz.func85, Tryz.ntmps85
        go_wp2
        go_ret
        exact ⟨ret_bool (by rw [HF3.out]; simp), by repeat' (first | (with_reducible exact Below.refl _ _) | (with_reducible assumption) | (with_reducible refine below_drewN ?_) | (with_reducible refine Below.alloc ?_ ?_ _) | (with_reducible refine Below.drew ?_) | (with_reducible refine Below.setCell ?_ ?_ _) | (with_reducible refine Below.trans ?_ (Below.mono (by with_reducible assumption) ?_)) | go_size)⟩
      · have hne2 : (((x : Nat) : Int) != 0) = true := by simp; omega
        have HZ := hid hz
        clear hz
        go_enter Tryz.func85, Tryz.ntmps85
        go_wp2
        go_ret
        exact ⟨ret_bool (by rw [HF3.out]; have := HZ.out; simp; omega), by repeat' (first | (with_reducible exact Below.refl _ _) | (with_reducible assumption) | (with_reducible refine below_drewN ?_) | (with_reducible refine Below.alloc ?_ ?_ _) | (with_reducible refine Below.drew ?_) | (with_reducible refine Below.setCell ?_ ?_ _) | (with_reducible refine Below.trans ?_ (Below.mono (by with_reducible assumption) ?_)) | go_size)⟩
    · go_enter Tryz.func85, Tryz.ntmps85
      go_wp2
      go_ret
      exact ⟨ret_bool (by rw [HF3.out]; simp; omega), by repeat' (first | (with_reducible exact Below.refl _ _) | (with_reducible assumption) | (with_reducible refine below_drewN ?_) | (with_reducible refine Below.alloc ?_ ?_ _) | (with_reducible refine Below.drew ?_) | (with_reducible refine Below.setCell ?_ ?_ _) | (with_reducible refine Below.trans ?_ (Below.mono (by with_reducible assumption) ?_)) | go_size)⟩

theorem wrapneg_u64 (m : Nat) (h : m < 9223372036854775808) (h0 : 0 < m) : IntKind.u64.wrap (-IntKind.u64.wrap (-(m : Int))) = (m : Int) := by
  simp only [IntKind.wrap_u64]; omega
theorem val_two' (m : Nat) : val [m % 4294967296, m / 4294967296] = m := by simp only [val]; omega
theorem val_two (m : Nat) (h : m < 9223372036854775808) : val [m % 4294967296, m / 4294967296 % 4294967296] = m := by simp only [val]; omega

set_option maxHeartbeats 400000 in
theorem ref_FromInt (n : Int) (w : World) (h : -9223372036854775808 < n) (h' : n < 9223372036854775808) :
    Calls Tryz.prog 99 #[.int .i64 n] w (GivesZ [] w (decide (n < 0)) n.natAbs) := by
  by_cases hneg : n < 0
  · obtain ⟨m, rfl⟩ : ∃ m : Nat, n = -(m : Int) := ⟨n.natAbs, by omega⟩
    have hm : m < 9223372036854775808 := by omega
    have H := hid (wrapneg_u64 m hm (by omega))
    rw [show (-(m : Int)).natAbs = m from by omega, decide_eq_true hneg]
    go_enter Tryz.func99, Tryz.ntmps99
    go_wp2_with fail
    rw [H.out, show ((m : Int) / 4294967296 % 4294967296) = ((m / 4294967296 % 4294967296 : Nat) : Int) from by omega, show ((m : Int) % 4294967296) = ((m % 4294967296 : Nat) : Int) from by omega]
    with_reducible refine (ref_big true _ [m % 4294967296, m / 4294967296 % 4294967296] _ (Rd32.new2 _ _ _ _ _ (by simp) (by omega) (by omega))).mono ?_
    rintro e w1 ⟨a, c, rfl, hv, ho, hb⟩
    rw [val_two m hm] at hv ho
    have HV := hid hv
    have HO := hid ho
    clear hv ho
    rw [val_two m hm]
    obtain ⟨hc, hf⟩ := bcell hb
    have q0 : w1.cell? ⟨w.heap.size, 0, none⟩ = some (.bool false) := by rw [hc _ _ (by simp; omega)]; simp
    have q1 : w1.cell? ⟨w.heap.size, 1, none⟩ = some (.slice none 0 0) := by rw [hc _ _ (by simp; omega)]; simp
    have hz := hb.size
    simp at hz
    have hoff : Off w.heap.size (.slice a (dig m).length c) := HO.out _ (by simp; omega) (fun u hu => by simp at hu; subst hu; exact Off.of_lt (by omega))
    have HOF := hid hoff
    clear hoff
    go_wp2
    refine bodyPost_ret (by simp [results, Tryz.results99, go_sem, q0, q1]; rfl) rfl ?_
    exact ⟨_, _, by rw [show decide (0 < m) = true from decide_eq_true (by omega)]; rfl, (HV.out.setCell HOF.out).setCell HOF.out, fun R hR _ => HO.out R (by simp; omega) (fun u hu => by simp at hu; subst hu; exact Off.of_lt (by omega)), by repeat' (first | (with_reducible exact Below.refl _ _) | (with_reducible assumption) | (with_reducible refine below_drewN ?_) | (with_reducible refine Below.alloc ?_ ?_ _) | (with_reducible refine Below.drew ?_) | (with_reducible refine Below.setCell ?_ ?_ _) | (with_reducible refine Below.trans ?_ (Below.mono (by with_reducible assumption) ?_)) | go_size)⟩
  · obtain ⟨m, rfl⟩ : ∃ m : Nat, n = (m : Int) := ⟨n.natAbs, by omega⟩
    have hm : m < 9223372036854775808 := by omega
    rw [show (m : Int).natAbs = m from by omega, decide_eq_false hneg]
    go_enter Tryz.func99, Tryz.ntmps99
    go_wp2_with fail
    rw [show ((m : Int) / 4294967296) = ((m / 4294967296 : Nat) : Int) from by omega, show ((m : Int) % 4294967296) = ((m % 4294967296 : Nat) : Int) from by omega]
    with_reducible refine (ref_big false _ [m % 4294967296, m / 4294967296] _ (Rd32.new2 _ _ _ _ _ (by simp) (by omega) (by omega))).mono ?_
    rintro e w1 ⟨a, c, rfl, hv, ho, hb⟩
    rw [val_two' m] at hv ho
    have HV := hid hv
    have HO := hid ho
    clear hv ho
    rw [val_two' m]
    obtain ⟨hc, hf⟩ := bcell hb
    have q0 : w1.cell? ⟨w.heap.size, 0, none⟩ = some (.bool false) := by rw [hc _ _ (by simp; omega)]; simp
    have q1 : w1.cell? ⟨w.heap.size, 1, none⟩ = some (.slice none 0 0) := by rw [hc _ _ (by simp; omega)]; simp
    have hz := hb.size
    simp at hz
    have hoff : Off w.heap.size (.slice a (dig m).length c) := HO.out _ (by simp; omega) (fun u hu => by simp at hu; subst hu; exact Off.of_lt (by omega))
    have HOF := hid hoff
    clear hoff
    go_wp2
    refine bodyPost_ret (by simp [results, Tryz.results99, go_sem, q0, q1]; rfl) rfl ?_
    exact ⟨_, _, rfl, (HV.out.setCell HOF.out).setCell HOF.out, fun R hR _ => HO.out R (by simp; omega) (fun u hu => by simp at hu; subst hu; exact Off.of_lt (by omega)), by repeat' (first | (with_reducible exact Below.refl _ _) | (with_reducible assumption) | (with_reducible refine below_drewN ?_) | (with_reducible refine Below.alloc ?_ ?_ _) | (with_reducible refine Below.drew ?_) | (with_reducible refine Below.setCell ?_ ?_ _) | (with_reducible refine Below.trans ?_ (Below.mono (by with_reducible assumption) ?_)) | go_size)⟩

end Go.Proofs.YtfcccldofaleoaaGreatDoor.Fr
