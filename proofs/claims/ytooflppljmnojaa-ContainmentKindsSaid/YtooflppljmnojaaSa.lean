/- Scores as fractions: their comparison and their texts. -/
import Derived.Test.YtooflppljmnojaaFf
import Derived.Test.YtooflppljmnojaaRk
namespace Go.Proofs.Ytooflppljmnojaa
open Go.RowKit

theorem small_pow {n : Nat} (h : n < 4294967296) : n < 4294967296 ^ 256 :=
  Nat.lt_of_lt_of_le h (by have := Nat.pow_le_pow_right (n := 4294967296) (by omega) (show 1 ≤ 256 by omega); rwa [Nat.pow_one] at this)

theorem okF_of {c d : Nat} (hd : 0 < d) (hc : c < 4294967296) (hd2 : d < 4294967296) : OkF false (c / Nat.gcd c d) (d / Nat.gcd c d) where
  pos := Nat.div_pos (Nat.gcd_le_right _ hd) (Nat.gcd_pos_of_pos_right _ hd)
  low := by
    have h := Nat.gcd_div (Nat.gcd_dvd_left c d) (Nat.gcd_dvd_right c d)
    rw [h, Nat.div_self (Nat.gcd_pos_of_pos_right _ hd)]
  sign := fun _ => rfl
  num := small_pow (Nat.lt_of_le_of_lt (Nat.div_le_self _ _) hc)
  den := small_pow (Nat.lt_of_le_of_lt (Nat.div_le_self _ _) hd2)

theorem isgn_scale (a b : Nat) (k : Nat) (hk : 0 < k) : sgn (a * k) (b * k) = sgn a b := by
  unfold sgn
  have h1 : a * k < b * k ↔ a < b := Nat.mul_lt_mul_right hk
  have h2 : b * k < a * k ↔ b < a := Nat.mul_lt_mul_right hk
  simp only [h1, h2]

theorem sgn_frac (c d c' d' : Nat) (hd : 0 < d) (hd' : 0 < d') :
    isgn (zF false (c / Nat.gcd c d) * ((d' / Nat.gcd c' d' : Nat) : Int)) (zF false (c' / Nat.gcd c' d') * ((d / Nat.gcd c d : Nat) : Int)) = sgn (c * d') (c' * d) := by
  have hg : 0 < Nat.gcd c d := Nat.gcd_pos_of_pos_right _ hd
  have hg' : 0 < Nat.gcd c' d' := Nat.gcd_pos_of_pos_right _ hd'
  have e1 : c / Nat.gcd c d * Nat.gcd c d = c := Nat.div_mul_cancel (Nat.gcd_dvd_left c d)
  have e2 : d / Nat.gcd c d * Nat.gcd c d = d := Nat.div_mul_cancel (Nat.gcd_dvd_right c d)
  have e3 : c' / Nat.gcd c' d' * Nat.gcd c' d' = c' := Nat.div_mul_cancel (Nat.gcd_dvd_left c' d')
  have e4 : d' / Nat.gcd c' d' * Nat.gcd c' d' = d' := Nat.div_mul_cancel (Nat.gcd_dvd_right c' d')
  generalize Nat.gcd c d = g at *
  generalize Nat.gcd c' d' = g' at *
  generalize c / g = p at *
  generalize d / g = q at *
  generalize c' / g' = p' at *
  generalize d' / g' = q' at *
  subst e1; subst e2; subst e3; subst e4
  have h1 : zF false p * (q' : Int) = ((p * q' : Nat) : Int) := by simp [zF]
  have h2 : zF false p' * (q : Int) = ((p' * q : Nat) : Int) := by simp [zF]
  rw [h1, h2, isgn_nat]
  have h3 : p * g * (q' * g') = p * q' * (g * g') := by rw [Nat.mul_mul_mul_comm]
  have h4 : p' * g' * (q * g) = p' * q * (g * g') := by rw [Nat.mul_mul_mul_comm, Nat.mul_comm g' g]
  rw [h3, h4, isgn_scale _ _ _ (Nat.mul_pos hg hg')]

/-- comparing two scores -/
theorem cmp_scores (u v : Value) (c d c' d' : Nat) (w : World) (hu : RdF w u false (c / Nat.gcd c d) (d / Nat.gcd c d)) (hv : RdF w v false (c' / Nat.gcd c' d') (d' / Nat.gcd c' d'))
    (hd : 0 < d) (hc : c < 4294967296) (hd2 : d < 4294967296) (hd' : 0 < d') (hc' : c' < 4294967296) (hd2' : d' < 4294967296) :
    Calls Try.prog 7 #[u, v] w (Ret w (.int .i64 (sgn (c * d') (c' * d)))) := by
  have h := ref_Cmp u v false false _ _ _ _ w hu hv (okF_of hd hc hd2) (okF_of hd' hc' hd2')
  rw [sgn_frac c d c' d' hd hd'] at h
  exact h

theorem text_zero (u : Value) (d : Nat) (w : World) (hd : 0 < d) (hd2 : d < 4294967296) (hu : RdF w u false (0 / Nat.gcd 0 d) (d / Nat.gcd 0 d)) :
    Calls Try.prog 8 #[u] w (Ret w (.string ⟨#[48]⟩)) := by
  have ok := okF_of (c := 0) hd (by omega) hd2
  rw [Nat.gcd_zero_left, Nat.div_self hd, Nat.zero_div] at hu ok
  have h := ref_Text1 u 0 1 w hu ok (by omega) (by omega)
  exact h

end Go.Proofs.Ytooflppljmnojaa
