/- The walk through ContainmentKinds. -/
import Derived.Test.YtooflppljmnojaaSb
namespace Go.Proofs.Ytooflppljmnojaa
open Go.RowKit

def scP (k c q n : Nat) : Nat := c / Nat.gcd c (denOf k c q n)
def scQ (k c q n : Nat) : Nat := denOf k c q n / Nat.gcd c (denOf k c q n)
/-- the range of the law's numbers -/
structure Rng (k c q n : Nat) : Prop where
  k1 : 1 ≤ k
  k3 : k ≤ 3
  cq : c ≤ q
  cn : c ≤ n
  q1 : 1 ≤ q
  q2 : q ≤ 40
  n1 : 1 ≤ n
  n2 : n ≤ 40
theorem denOf_cases {k : Nat} (c q n : Nat) (h1 : 1 ≤ k) (h3 : k ≤ 3) : k = 1 ∧ denOf k c q n = q ∨ k = 2 ∧ denOf k c q n = n ∨ k = 3 ∧ denOf k c q n = q + n - c := by
  unfold denOf
  rcases (show k = 1 ∨ k = 2 ∨ k = 3 by omega) with h | h | h <;> subst h <;> simp
theorem Rng.den {k c q n : Nat} (r : Rng k c q n) : 0 < denOf k c q n ∧ denOf k c q n ≤ 80 := by
  obtain ⟨h1, h2, h3, h4, h5, h6, h7, h8⟩ := r
  rcases denOf_cases c q n h1 h2 with ⟨_, h⟩ | ⟨_, h⟩ | ⟨_, h⟩ <;> rw [h] <;> omega
theorem score_any {k c q n : Nat} (r : Rng k c q n) (W : World) : Calls Try.prog 6 #[.int .i64 (k : Int), .int .i64 (c : Int), .int .i64 (q : Int), .int .i64 (n : Int)] W (GivesFE W false (scP k c q n) (scQ k c q n) (.bool true)) :=
  cont_Score k c q n W r.k1 r.k3 r.cq r.cn (by have := r.q2; omega) (by have := r.n2; omega) r.den.1 (by have := r.den.2; omega)
theorem cmp_any {k c q n k' c' : Nat} (r : Rng k c q n) (r' : Rng k' c' q n) (W : World) (u v : Value) (hu : RdF W u false (scP k c q n) (scQ k c q n)) (hv : RdF W v false (scP k' c' q n) (scQ k' c' q n)) :
    Calls Try.prog 7 #[u, v] W (Ret W (.int .i64 (sgn (c * denOf k' c' q n) (c' * denOf k c q n)))) :=
  cmp_scores u v _ _ _ _ W hu hv r.den.1 (by have := r.cq; have := r.q2; omega) (by have := r.den.2; omega) r'.den.1 (by have := r'.cq; have := r'.q2; omega) (by have := r'.den.2; omega)
theorem cmp_one {k c q n : Nat} (r : Rng k c q n) (W : World) (u v : Value) (hu : RdF W u false (scP k c q n) (scQ k c q n)) (hv : RdF W v false 1 1) :
    Calls Try.prog 7 #[u, v] W (Ret W (.int .i64 (sgn c (denOf k c q n)))) := by
  have h := cmp_scores u v c (denOf k c q n) 1 1 W hu hv r.den.1 (by have := r.cq; have := r.q2; omega) (by have := r.den.2; omega) (by omega) (by omega) (by omega)
  rw [Nat.mul_one, Nat.one_mul] at h
  exact h
theorem text_any {k q n : Nat} (r : Rng k 0 q n) (W : World) (u : Value) (hu : RdF W u false (scP k 0 q n) (scQ k 0 q n)) : Calls Try.prog 8 #[u] W (Ret W (.string ⟨#[48]⟩)) :=
  text_zero u (denOf k 0 q n) W r.den.1 (by have := r.den.2; omega) hu
theorem sgn_step {k c q n : Nat} (r : Rng k c q n) (hc : 0 < c) : sgn ((c - 1) * denOf k c q n) (c * denOf k (c - 1) q n) = -1 := by
  apply sgn_lt
  obtain ⟨h1, h2, h3, h4, h5, h6, h7, h8⟩ := r
  obtain ⟨b, rfl⟩ : ∃ b, c = b + 1 := ⟨c - 1, by omega⟩
  rw [Nat.add_sub_cancel]
  have key : ∀ d d' : Nat, 0 < d → d ≤ d' → b * d < (b + 1) * d' := fun d d' hd hle => by
    have := Nat.mul_le_mul_left b hle
    rw [Nat.add_mul, Nat.one_mul]
    omega
  rcases denOf_cases (b + 1) q n h1 h2 with ⟨e, h⟩ | ⟨e, h⟩ | ⟨e, h⟩ <;> rcases denOf_cases b q n h1 h2 with ⟨e', h'⟩ | ⟨e', h'⟩ | ⟨e', h'⟩ <;>
    first
    | omega
    | (rw [h, h']; exact key _ _ (by omega) (by omega))
theorem Rng.pred {k c q n : Nat} (r : Rng k c q n) : Rng k (c - 1) q n := ⟨r.k1, r.k3, by have := r.cq; omega, by have := r.cn; omega, r.q1, r.q2, r.n1, r.n2⟩

end Go.Proofs.Ytooflppljmnojaa
