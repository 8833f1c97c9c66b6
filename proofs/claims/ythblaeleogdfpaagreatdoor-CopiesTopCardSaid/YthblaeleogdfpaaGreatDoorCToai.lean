/- Digits in base 2^32 as lists of natural numbers: their value, the canonical list of a value, comparison. No program in sight. -/

set_option linter.unusedVariables false
set_option linter.unusedSimpArgs false
namespace Go.Proofs.YthblaeleogdfpaaGreatDoor.Fr
def val : List Nat → Nat
  | [] => 0
  | x :: xs => x + 4294967296 * val xs
def dig (n : Nat) : List Nat := if n = 0 then [] else n % 4294967296 :: dig (n / 4294967296)
termination_by n
decreasing_by omega
theorem dig_zero : dig 0 = [] := by rw [dig]; simp
theorem dig_pos {n : Nat} (h : 0 < n) : dig n = n % 4294967296 :: dig (n / 4294967296) := by rw [dig, if_neg (by omega)]
theorem val_dig (n : Nat) : val (dig n) = n := by
 induction n using Nat.strongRecOn with
 | ind n ih =>
  by_cases h : n = 0
  ·subst h; rw [dig_zero]; rfl
  ·rw [dig_pos (by omega), val, ih _ (by omega)]; omega
def Digs (xs : List Nat) : Prop := ∀ i, xs.getD i 0 < 4294967296
def Lead (xs : List Nat) : Prop := 0 < xs.length → xs.getD (xs.length - 1) 0 ≠ 0
theorem Digs.nil : Digs [] := by intro i; simp
theorem Digs.cons {x : Nat} {xs : List Nat} (h : x < 4294967296) (hs : Digs xs) : Digs (x :: xs) := by
 intro i; cases i with
 | zero => simpa using h
 | succ i => simpa using hs i
theorem Digs.head {x : Nat} {xs : List Nat} (h : Digs (x :: xs)) : x < 4294967296 := by simpa using h 0
theorem Digs.tail {x : Nat} {xs : List Nat} (h : Digs (x :: xs)) : Digs xs := by intro i; simpa using h (i + 1)
theorem Lead.tail {x : Nat} {xs : List Nat} (h : Lead (x :: xs)) : Lead xs := by
 intro hp
 have := h (by simp)
 simp only [List.length_cons, Nat.add_sub_cancel] at this
 obtain ⟨k, hk⟩ : ∃ k, xs.length = k + 1 := ⟨xs.length - 1, by omega⟩
 rw [hk] at this ⊢
 simpa using this
theorem Digs.take {xs : List Nat} (h : Digs xs) (k : Nat) : Digs (xs.take k) := by
 intro i
 by_cases hi : i < k
 ·have : (xs.take k).getD i 0 = xs.getD i 0 := by simp [List.getD, List.getElem?_take, hi]
  rw [this]; exact h i
 ·have : (xs.take k).getD i 0 = 0 := by simp [List.getD, List.getElem?_take, hi]
  rw [this]; omega
theorem Digs.append {xs ys : List Nat} (h : Digs xs) (k : Digs ys) : Digs (xs ++ ys) := by
 intro i
 by_cases hi : i < xs.length
 ·have : (xs ++ ys).getD i 0 = xs.getD i 0 := by simp [List.getD, List.getElem?_append, hi]
  rw [this]; exact h i
 ·have : (xs ++ ys).getD i 0 = ys.getD (i - xs.length) 0 := by simp [List.getD, List.getElem?_append, hi]
  rw [this]; exact k _
theorem Digs.set {xs : List Nat} (h : Digs xs) (k x : Nat) (hx : x < 4294967296) : Digs (xs.set k x) := by
 intro i
 simp only [List.getD, List.getElem?_set]
 split
 ·split
  ·simpa using hx
  ·simp
 ·exact h i
theorem digs_dig (n : Nat) : Digs (dig n) := by
 induction n using Nat.strongRecOn with
 | ind n ih =>
  by_cases h : n = 0
  ·subst h; rw [dig_zero]; exact Digs.nil
  ·rw [dig_pos (by omega)]; exact Digs.cons (by omega) (ih _ (by omega))
theorem lead_dig (n : Nat) : Lead (dig n) := by
 induction n using Nat.strongRecOn with
 | ind n ih =>
  by_cases h : n = 0
  ·subst h; rw [dig_zero]; intro h; simp at h
  ·rw [dig_pos (by omega)]
   intro _
   have h1 := ih (n / 4294967296) (by omega)
   by_cases hz : n / 4294967296 = 0
   ·rw [hz, dig_zero]; simp; omega
   ·rw [dig_pos (by omega)] at h1 ⊢
    have := h1 (by simp)
    simpa using this
theorem val_pos_of_lead {xs : List Nat} (hl : Lead xs) (h : 0 < xs.length) : 0 < val xs := by
 induction xs with
 | nil => simp at h
 | cons x xs ih =>
  by_cases hp : 0 < xs.length
  ·have := ih hl.tail hp
   rw [val]; omega
  ·have hx : xs = [] := by cases xs <;> simp_all
   subst hx
   have := hl (by simp)
   simp at this
   simp [val]; omega
theorem dig_val {xs : List Nat} (hd : Digs xs) (hl : Lead xs) : dig (val xs) = xs := by
 induction xs with
 | nil => exact dig_zero
 | cons x xs ih =>
  have hx := hd.head
  have hp : 0 < val (x :: xs) := val_pos_of_lead hl (by simp)
  rw [dig_pos hp, val]
  have e1 : (x + 4294967296 * val xs) % 4294967296 = x := by omega
  have e2 : (x + 4294967296 * val xs) / 4294967296 = val xs := by omega
  rw [e1, e2, ih hd.tail hl.tail]
theorem val_lt {xs : List Nat} (hd : Digs xs) : val xs < 4294967296 ^ xs.length := by
 induction xs with
 | nil => simp [val]
 | cons x xs ih =>
  have h1 := ih hd.tail
  have hx := hd.head
  rw [val, List.length_cons, Nat.pow_succ]
  have : 4294967296 * (val xs + 1) ≤ 4294967296 * 4294967296 ^ xs.length := Nat.mul_le_mul_left _ h1
  rw [Nat.mul_comm (4294967296 ^ xs.length)]
  omega
theorem val_append (xs ys : List Nat) : val (xs ++ ys) = val xs + 4294967296 ^ xs.length * val ys := by
 induction xs with
 | nil => simp [val]
 | cons x xs ih =>
  rw [List.cons_append, val, ih, val, List.length_cons, Nat.pow_succ, Nat.mul_add, Nat.mul_comm (4294967296 ^ xs.length) 4294967296, Nat.mul_assoc]
  omega
theorem take_succ_getD (xs : List Nat) (k : Nat) (h : k < xs.length) : xs.take (k + 1) = xs.take k ++ [xs.getD k 0] := by
 rw [List.take_succ_eq_append_getElem h]; simp [List.getD, h]
theorem val_take_succ (xs : List Nat) (k : Nat) (h : k < xs.length) : val (xs.take (k + 1)) = val (xs.take k) + 4294967296 ^ k * xs.getD k 0 := by
 rw [take_succ_getD xs k h, val_append]
 have : (xs.take k).length = k := by simp; omega
 rw [this]; simp [val]
theorem val_take_lt (xs : List Nat) (hd : Digs xs) (k : Nat) (h : k ≤ xs.length) : val (xs.take k) < 4294967296 ^ k := by
 have := val_lt (hd.take k)
 have e : (xs.take k).length = k := by simp; omega
 rwa [e] at this
theorem val_ge_of_lead {xs : List Nat} (hl : Lead xs) (h : 0 < xs.length) : 4294967296 ^ (xs.length - 1) ≤ val xs := by
 obtain ⟨k, hk⟩ : ∃ k, xs.length = k + 1 := ⟨xs.length - 1, by omega⟩
 have h1 := val_take_succ xs k (by omega)
 have h2 : xs.take (k + 1) = xs := List.take_of_length_le (by omega)
 rw [h2] at h1
 have h3 := hl h
 rw [hk, Nat.add_sub_cancel] at h3 ⊢
 have : 4294967296 ^ k * 1 ≤ 4294967296 ^ k * xs.getD k 0 := Nat.mul_le_mul_left _ (by omega)
 omega
def vt (xs : List Nat) (k : Nat) : Nat := val (xs.take k)
theorem vt_zero (xs : List Nat) : vt xs 0 = 0 := rfl
theorem vt_succ (xs : List Nat) (k : Nat) : vt xs (k + 1) = vt xs k + 4294967296 ^ k * xs.getD k 0 := by
 unfold vt
 rcases Nat.lt_or_ge k xs.length with h | h
 ·exact val_take_succ xs k h
 ·rw [List.take_of_length_le h, List.take_of_length_le (by omega)]
  have : xs.getD k 0 = 0 := by simp [List.getD, h]
  rw [this]; simp
theorem vt_all (xs : List Nat) (k : Nat) (h : xs.length ≤ k) : vt xs k = val xs := by unfold vt; rw [List.take_of_length_le h]
theorem getD_beyond {xs : List Nat} {k : Nat} (h : xs.length ≤ k) : xs.getD k 0 = 0 := by simp [List.getD, h]
theorem val_snoc (zs : List Nat) (x : Nat) : val (zs ++ [x]) = val zs + 4294967296 ^ zs.length * x := by rw [val_append]; simp [val]
theorem add_step {zs xs ys : List Nat} {c k : Nat} (hl : zs.length = k) (h : val zs + 4294967296 ^ k * c = vt xs k + vt ys k) :
  val (zs ++ [(c + xs.getD k 0 + ys.getD k 0) % 4294967296]) + 4294967296 ^ (k + 1) * ((c + xs.getD k 0 + ys.getD k 0) / 4294967296) = vt xs (k + 1) + vt ys (k + 1) := by
 rw [val_snoc, vt_succ, vt_succ, hl, Nat.pow_succ]
 generalize xs.getD k 0 = x
 generalize ys.getD k 0 = y
 generalize 4294967296 ^ k = p at *
 have e := Nat.mod_add_div (c + x + y) 4294967296
 have e2 : p * ((c + x + y) % 4294967296) + p * 4294967296 * ((c + x + y) / 4294967296) = p * (c + x + y) := by
  rw [Nat.mul_assoc, ← Nat.mul_add, e]
 have e3 : p * (c + x + y) = p * c + p * x + p * y := by rw [Nat.mul_add, Nat.mul_add]
 omega
theorem sub_step {zs xs ys : List Nat} {q k d q' : Nat} (hl : zs.length = k) (h : val zs + vt ys k = vt xs k + 4294967296 ^ k * q) (he : d + ys.getD k 0 + q = xs.getD k 0 + 4294967296 * q') :
  val (zs ++ [d]) + vt ys (k + 1) = vt xs (k + 1) + 4294967296 ^ (k + 1) * q' := by
 rw [val_snoc, vt_succ, vt_succ, hl, Nat.pow_succ]
 generalize xs.getD k 0 = x at *
 generalize ys.getD k 0 = y at *
 generalize 4294967296 ^ k = p at *
 have e2 : p * (d + y + q) = p * (x + 4294967296 * q') := by rw [he]
 have e3 : p * (d + y + q) = p * d + p * y + p * q := by rw [Nat.mul_add, Nat.mul_add]
 have e4 : p * (x + 4294967296 * q') = p * x + p * 4294967296 * q' := by rw [Nat.mul_add, Nat.mul_assoc]
 omega
theorem sub_digit (x y q : Nat) (hx : x < 4294967296) (hy : y < 4294967296) (hq : q ≤ 1) : ∃ d q', d < 4294967296 ∧ q' ≤ 1 ∧ d + y + q = x + 4294967296 * q' ∧ (-(q : Int) + x - y) % 4294967296 = (d : Int) ∧ (-(q : Int) + x - y) / 4294967296 = -(q' : Int) := by
 by_cases h : x < y + q
 ·exact ⟨x + 4294967296 - y - q, 1, by omega, by omega, by omega, by omega, by omega⟩
 ·exact ⟨x - y - q, 0, by omega, by omega, by omega, by omega, by omega⟩
theorem sub_done {zs xs ys : List Nat} {q k : Nat} (hl : zs.length = k) (hd : Digs zs) (h : val zs + val ys = val xs + 4294967296 ^ k * q) (hle : val ys ≤ val xs) (hq : q ≤ 1) : val zs = val xs - val ys := by
 have h1 := val_lt hd
 rw [hl] at h1
 rcases Nat.lt_or_ge 0 q with h2 | h2
 ·have : q = 1 := by omega
  subst this
  omega
 ·have : q = 0 := by omega
  subst this
  omega
theorem val_set {zs : List Nat} {p d : Nat} (h : p < zs.length) : val (zs.set p d) + 4294967296 ^ p * zs.getD p 0 = val zs + 4294967296 ^ p * d := by
 induction zs generalizing p with
 | nil => simp at h
 | cons z zs ih =>
  cases p with
  | zero => simp [val]; omega
  | succ p =>
   have h1 := @ih p (by simpa using h)
   simp only [List.set_cons_succ, val, List.getD_cons_succ, Nat.pow_succ]
   rw [Nat.mul_comm (4294967296 ^ p) 4294967296, Nat.mul_assoc, Nat.mul_assoc]
   omega
theorem val_replicate (n : Nat) : val (List.replicate n 0) = 0 := by
 induction n with
 | zero => rfl
 | succ n ih => rw [List.replicate_succ, val, ih]
theorem getD_set_other {zs : List Nat} {p q d : Nat} (h : p ≠ q) : (zs.set p d).getD q 0 = zs.getD q 0 := by simp [List.getD, List.getElem?_set, h]
theorem mul_bound {x y c z : Nat} (hx : x < 4294967296) (hy : y < 4294967296) (hc : c < 4294967296) (hz : z < 4294967296) : x * y ≤ 18446744065119617025 ∧ (c + (x * y + z)) / 4294967296 < 4294967296 := by
 have h1 : x * y ≤ 4294967295 * 4294967295 := Nat.mul_le_mul (by omega) (by omega)
 exact ⟨by omega, by omega⟩
theorem mul_step {zs ys : List Nat} {V x c k j t : Nat} (hlen : k + j < zs.length) (h : val zs + 4294967296 ^ (k + j) * c = V + x * (4294967296 ^ k * vt ys j)) (ht : t = c + (x * ys.getD j 0 + zs.getD (k + j) 0)) :
  val (zs.set (k + j) (t % 4294967296)) + 4294967296 ^ (k + (j + 1)) * (t / 4294967296) = V + x * (4294967296 ^ k * vt ys (j + 1)) := by
 have h1 := val_set (d := t % 4294967296) hlen
 have h2 := vt_succ ys j
 have hp : 4294967296 ^ (k + j) = 4294967296 ^ k * 4294967296 ^ j := Nat.pow_add _ _ _
 have e : 4294967296 ^ (k + (j + 1)) = 4294967296 ^ (k + j) * 4294967296 := by rw [← Nat.add_assoc, Nat.pow_succ]
 rw [e, h2, Nat.mul_add, Nat.mul_add, ← Nat.mul_assoc (4294967296 ^ k) (4294967296 ^ j), ← hp, Nat.mul_left_comm x (4294967296 ^ (k + j))]
 generalize ys.getD j 0 = y at *
 generalize zs.getD (k + j) 0 = z at *
 generalize 4294967296 ^ (k + j) = P at *
 have e1 : P * (t % 4294967296) + P * 4294967296 * (t / 4294967296) = P * c + P * (x * y) + P * z := by
  rw [Nat.mul_assoc, ← Nat.mul_add, Nat.mod_add_div, ht, Nat.mul_add, Nat.mul_add]; omega
 omega
theorem mul_row {zs ys : List Nat} {xs : List Nat} {k n' c : Nat} (hlen : k + n' < zs.length) (hz : zs.getD (k + n') 0 = 0) (hn : ys.length ≤ n')
  (h : val zs + 4294967296 ^ (k + n') * c = vt xs k * val ys + xs.getD k 0 * (4294967296 ^ k * vt ys n')) : val (zs.set (k + n') c) = vt xs (k + 1) * val ys := by
 have h1 := val_set (d := c) hlen
 rw [hz] at h1
 rw [vt_succ, Nat.add_mul, ← vt_all ys n' hn, Nat.mul_comm (4294967296 ^ k) (xs.getD k 0), Nat.mul_assoc, vt_all ys n' hn]
 rw [vt_all ys n' hn] at h
 simp only [Nat.mul_zero, Nat.add_zero] at h1
 omega
theorem twice_step {zs xs : List Nat} {q k d D q' : Nat} (hl : zs.length = k) (h : val zs + 4294967296 ^ k * q = 2 * vt xs k + d) (he : D + 4294967296 * q' = 2 * xs.getD k 0 + q) :
  val (zs ++ [D]) + 4294967296 ^ (k + 1) * q' = 2 * vt xs (k + 1) + d := by
 rw [val_snoc, vt_succ, hl, Nat.pow_succ]
 generalize xs.getD k 0 = x at *
 generalize 4294967296 ^ k = p at *
 have e1 : p * (D + 4294967296 * q') = p * (2 * x + q) := by rw [he]
 have e2 : p * (D + 4294967296 * q') = p * D + p * 4294967296 * q' := by rw [Nat.mul_add, Nat.mul_assoc]
 have e3 : p * (2 * x + q) = 2 * (p * x) + p * q := by rw [Nat.mul_add, Nat.mul_left_comm]
 omega
def halfF : List Nat → List Nat
  | [] => []
  | x :: t => (x / 2 + t.getD 0 0 % 2 * 2147483648) :: halfF t
theorem halfF_length (xs : List Nat) : (halfF xs).length = xs.length := by
 induction xs with
 | nil => rfl
 | cons x t ih => simp [halfF, ih]
theorem val_mod2 (xs : List Nat) : val xs % 2 = xs.getD 0 0 % 2 := by
 cases xs with
 | nil => rfl
 | cons x t => simp only [val, List.getD_cons_zero]; omega
theorem half_step (x y v : Nat) (h : v % 2 = y % 2) : x / 2 + y % 2 * 2147483648 + 4294967296 * (v / 2) = (x + 4294967296 * v) / 2 := by omega
theorem val_halfF (xs : List Nat) : val (halfF xs) = val xs / 2 := by
 induction xs with
 | nil => rfl
 | cons x t ih =>
  have h := val_mod2 t
  simp only [halfF, val, ih]
  exact half_step x (t.getD 0 0) (val t) h
theorem halfF_getD (xs : List Nat) (i : Nat) (h : i < xs.length) : (halfF xs).getD i 0 = xs.getD i 0 / 2 + xs.getD (i + 1) 0 % 2 * 2147483648 := by
 induction xs generalizing i with
 | nil => simp at h
 | cons x t ih =>
  cases i with
  | zero => simp only [halfF, List.getD_cons_zero, List.getD_cons_succ]
  | succ i => simp only [halfF, List.getD_cons_succ]; exact ih i (by simpa using h)
theorem digs_halfF {xs : List Nat} (h : Digs xs) : Digs (halfF xs) := by
 intro i
 rcases Nat.lt_or_ge i xs.length with hi | hi
 ·rw [halfF_getD xs i hi]; have := h i; omega
 ·have : (halfF xs).getD i 0 = 0 := getD_beyond (by rw [halfF_length]; exact hi)
  rw [this]; omega
theorem mixed_get {xs ys : List Nat} {k : Nat} (hk : k ≤ ys.length) (i : Nat) : (ys.take k ++ xs.drop k)[i]? = if i < k then ys[i]? else xs[i]? := by
 have hl : (ys.take k).length = k := by simp; omega
 rw [List.getElem?_append, hl]
 by_cases h : i < k
 ·rw [if_pos h, if_pos h, List.getElem?_take, if_pos h]
 ·rw [if_neg h, if_neg h, List.getElem?_drop]
  congr 1; omega
theorem mixed_set {xs ys : List Nat} {k : Nat} (hl : ys.length = xs.length) (h : k < xs.length) : (ys.take k ++ xs.drop k).set k (ys.getD k 0) = ys.take (k + 1) ++ xs.drop (k + 1) := by
 apply List.ext_getElem?
 intro i
 rw [List.getElem?_set, mixed_get (by omega), mixed_get (by omega)]
 by_cases h1 : k = i
 ·subst h1
  have hlen : k < (ys.take k ++ xs.drop k).length := by simp; omega
  rw [if_pos rfl, if_pos hlen, if_pos (by omega)]
  simp [List.getD, hl, h]
 ·rw [if_neg h1]
  by_cases h2 : i < k
  ·rw [if_pos h2, if_pos (by omega)]
  ·rw [if_neg h2, if_neg (by omega)]
theorem mixed_getD {xs ys : List Nat} {k : Nat} (hl : ys.length = xs.length) (h : k < xs.length) : (ys.take k ++ xs.drop k).getD k 0 = xs.getD k 0 := by
 rw [List.getD, mixed_get (by omega), if_neg (by omega), List.getD]
theorem dig_length_le {n k : Nat} (h : n < 4294967296 ^ k) : (dig n).length ≤ k := by
 rcases Nat.lt_or_ge k (dig n).length with h1 | h1
 ·have h2 := val_ge_of_lead (lead_dig n) (by omega)
  rw [val_dig] at h2
  have : 4294967296 ^ k ≤ 4294967296 ^ ((dig n).length - 1) := Nat.pow_le_pow_right (by omega) (by omega)
  omega
 ·exact h1
theorem dig_length_pos {n : Nat} : 0 < (dig n).length ↔ 0 < n := by
 constructor
 ·intro h
  by_cases hn : n = 0
  ·subst hn; rw [dig_zero] at h; simp at h
  ·omega
 ·intro h; rw [dig_pos h]; simp
theorem dig_length_zero {n : Nat} : (dig n).length = 0 ↔ n = 0 := by
 have := @dig_length_pos n; omega
theorem dig_one_digit {n : Nat} (h0 : 0 < n) (h : n < 4294967296) : dig n = [n] := by
 rw [dig_pos h0]
 have e : n / 4294967296 = 0 := by omega
 rw [e, dig_zero, Nat.mod_eq_of_lt h]
theorem dig_length_mono {a b : Nat} (h : a ≤ b) : (dig a).length ≤ (dig b).length := by
 have h1 := val_lt (digs_dig b)
 rw [val_dig] at h1
 exact dig_length_le (by omega)
theorem dig_getD_zero (a : Nat) : (dig a).getD 0 0 = a % 4294967296 := by
 by_cases h : a = 0
 ·subst h; rw [dig_zero]; rfl
 ·rw [dig_pos (by omega)]; rfl
theorem gcd_half_left {a b : Nat} (h : a % 2 = 0) (hg : Nat.gcd a b % 2 = 1) : Nat.gcd (a / 2) b = Nat.gcd a b := by
 have ha : a = 2 * (a / 2) := by omega
 have hc : Nat.Coprime 2 (Nat.gcd a b) := by
  rw [Nat.coprime_iff_gcd_eq_one, Nat.gcd_rec, hg, Nat.gcd_one_left]
 apply Nat.dvd_antisymm
 ·refine Nat.dvd_gcd ?_ (Nat.gcd_dvd_right _ _)
  exact Nat.dvd_trans (Nat.gcd_dvd_left _ _) ⟨2, by omega⟩
 ·refine Nat.dvd_gcd ?_ (Nat.gcd_dvd_right _ _)
  have h1 : Nat.gcd a b ∣ 2 * (a / 2) := by rw [← ha]; exact Nat.gcd_dvd_left _ _
  exact hc.symm.dvd_of_dvd_mul_left h1
theorem gcd_half_right {a b : Nat} (h : b % 2 = 0) (hg : Nat.gcd a b % 2 = 1) : Nat.gcd a (b / 2) = Nat.gcd a b := by
 rw [Nat.gcd_comm, gcd_half_left h (by rw [Nat.gcd_comm]; exact hg), Nat.gcd_comm]
theorem gcd_odd {a b : Nat} (h : ¬ (a % 2 = 0 ∧ b % 2 = 0)) : Nat.gcd a b % 2 = 1 := by
 rcases Nat.mod_two_eq_zero_or_one (Nat.gcd a b) with h1 | h1
 ·exfalso
  apply h
  have hd : 2 ∣ Nat.gcd a b := Nat.dvd_of_mod_eq_zero h1
  exact ⟨Nat.mod_eq_zero_of_dvd (Nat.dvd_trans hd (Nat.gcd_dvd_left _ _)), Nat.mod_eq_zero_of_dvd (Nat.dvd_trans hd (Nat.gcd_dvd_right _ _))⟩
 ·exact h1
theorem gcd_sub_le {a b : Nat} (h : a ≤ b) : Nat.gcd a (b - a) = Nat.gcd a b := by
 have := Nat.gcd_self_add_right a (b - a)
 rw [show a + (b - a) = b from by omega] at this
 exact this.symm
theorem half_pow {A a k : Nat} (h : A = a * 2 ^ k) (he : a % 2 = 0) : A = a / 2 * 2 ^ (k + 1) := by
 rw [Nat.pow_succ, Nat.mul_comm (2 ^ k) 2, ← Nat.mul_assoc, Nat.div_mul_cancel (Nat.dvd_of_mod_eq_zero he)]; exact h
theorem k_bound {A a k L : Nat} (h : A = a * 2 ^ k) (ha : 0 < a) (hl : (dig A).length ≤ L) : k ≤ 32 * L := by
 have h1 := val_lt (digs_dig A)
 rw [val_dig] at h1
 have h2 : 4294967296 ^ (dig A).length ≤ 4294967296 ^ L := Nat.pow_le_pow_right (by omega) hl
 have h3 : 2 ^ k ≤ A := by rw [h]; exact Nat.le_mul_of_pos_left _ ha
 have h4 : (4294967296 : Nat) ^ L = 2 ^ (32 * L) := by rw [Nat.pow_mul]
 have h5 : 2 ^ k < 2 ^ (32 * L) := by rw [← h4]; omega
 exact Nat.le_of_lt ((Nat.pow_lt_pow_iff_right (by omega)).1 h5)
theorem getD_set_self {zs : List Nat} {p d : Nat} (h : p < zs.length) : (zs.set p d).getD p 0 = d := by simp [List.getD, h]
theorem val_drop (xs : List Nat) (k : Nat) (h : k < xs.length) : val (xs.drop k) = xs.getD k 0 + 4294967296 * val (xs.drop (k + 1)) := by
 have : xs.drop k = xs.getD k 0 :: xs.drop (k + 1) := by
  rw [List.drop_eq_getElem_cons h]; simp [List.getD, h]
 rw [this, val]
theorem drop_set_self (zs : List Nat) (k d : Nat) : (zs.set k d).drop (k + 1) = zs.drop (k + 1) := by
 rw [List.drop_set_of_lt (by omega)]
theorem short_step {zs xs : List Nat} {d r k : Nat} (hd : 0 < d) (hz : k < zs.length) (hx : k < xs.length) (hq : val (zs.drop (k + 1)) = val (xs.drop (k + 1)) / d) (hr : r = val (xs.drop (k + 1)) % d) :
  val ((zs.set k ((r * 4294967296 + xs.getD k 0) / d)).drop k) = val (xs.drop k) / d ∧ (r * 4294967296 + xs.getD k 0) % d = val (xs.drop k) % d := by
 rw [val_drop _ k (by simpa using hz), val_drop xs k hx, drop_set_self, hq, getD_set_self hz]
 generalize val (xs.drop (k + 1)) = T at *
 generalize xs.getD k 0 = x at *
 subst hr
 have e : x + 4294967296 * T = (T % d * 4294967296 + x) + d * (4294967296 * (T / d)) := by
  have h1 := Nat.mod_add_div T d
  have h2 : d * (4294967296 * (T / d)) = 4294967296 * (d * (T / d)) := by rw [Nat.mul_left_comm]
  omega
 constructor
 ·rw [e, Nat.add_mul_div_left _ _ hd]
 ·rw [e, Nat.add_mul_mod_self_left]
def trimK (xs : List Nat) : Nat → Nat
  | 0 => 0
  | k + 1 => if xs.getD k 0 = 0 then trimK xs k else k + 1
theorem trimK_le (xs : List Nat) : ∀ k, trimK xs k ≤ k
  | 0 => Nat.le_refl _
  | k + 1 => by rw [trimK]; split; · have := trimK_le xs k; omega
                · exact Nat.le_refl _
theorem val_trimK (xs : List Nat) : ∀ k, k ≤ xs.length → val (xs.take (trimK xs k)) = val (xs.take k)
 | 0, _ => rfl
 | k + 1, h => by
  rw [trimK]
  split
  ·rename_i hz
   rw [val_trimK xs k (by omega), val_take_succ xs k (by omega), hz]; simp
  ·rfl
theorem lead_trimK (xs : List Nat) : ∀ k, k ≤ xs.length → Lead (xs.take (trimK xs k))
 | 0, _ => by intro h; simp [trimK] at h
 | k + 1, h => by
  rw [trimK]
  split
  ·exact lead_trimK xs k (by omega)
  ·rename_i hz
   intro _
   have e : (xs.take (k + 1)).length = k + 1 := by simp; omega
   rw [e, Nat.add_sub_cancel]
   have : (xs.take (k + 1)).getD k 0 = xs.getD k 0 := by simp [List.getD]
   rw [this]; exact hz
theorem take_trimK {xs : List Nat} (hd : Digs xs) : xs.take (trimK xs xs.length) = dig (val xs) := by
 rw [← dig_val (hd.take _) (lead_trimK xs _ (Nat.le_refl _)), val_trimK xs _ (Nat.le_refl _), List.take_length]
theorem trimK_length {xs : List Nat} (hd : Digs xs) : trimK xs xs.length = (dig (val xs)).length := by
 rw [← take_trimK hd, List.length_take]; have := trimK_le xs xs.length; omega
def sgn (a b : Nat) : Int := if a < b then -1 else if b < a then 1 else 0
def cmpTop (xs ys : List Nat) : Nat → Int
  | 0 => 0
  | k + 1 => if xs.getD k 0 < ys.getD k 0 then -1 else if ys.getD k 0 < xs.getD k 0 then 1 else cmpTop xs ys k
def cmpL (xs ys : List Nat) : Int := if xs.length = ys.length then cmpTop xs ys xs.length else if xs.length < ys.length then -1 else 1
theorem sgn_top (p q a b B : Nat) (ha : a < B) (hb : b < B) : sgn (a + B * p) (b + B * q) = if p < q then -1 else if q < p then 1 else sgn a b := by
 have key : ∀ {x y : Nat}, x < y → B * x + B ≤ B * y := fun {x y} h => by
  have := Nat.mul_le_mul_left B (show x + 1 ≤ y from h); rw [Nat.mul_add, Nat.mul_one] at this; exact this
 by_cases h1 : p < q
 ·have := key h1; unfold sgn; rw [if_pos (by omega), if_pos h1]
 ·by_cases h2 : q < p
  ·have := key h2; unfold sgn; rw [if_neg (by omega), if_pos (by omega), if_neg h1, if_pos h2]
  ·have : p = q := by omega
   subst this
   rw [if_neg h1, if_neg h1]
   unfold sgn
   by_cases h3 : a < b
   ·rw [if_pos (by omega), if_pos h3]
   ·rw [if_neg (by omega), if_neg h3]
    by_cases h4 : b < a
    ·rw [if_pos (by omega), if_pos h4]
    ·rw [if_neg (by omega), if_neg h4]
theorem cmpTop_eq {xs ys : List Nat} (hx : Digs xs) (hy : Digs ys) : ∀ k, k ≤ xs.length → k ≤ ys.length → cmpTop xs ys k = sgn (val (xs.take k)) (val (ys.take k))
 | 0, _, _ => by simp [cmpTop, val, sgn]
 | k + 1, h1, h2 => by
  rw [cmpTop, val_take_succ xs k (by omega), val_take_succ ys k (by omega),
   sgn_top _ _ _ _ _ (val_take_lt xs hx k (by omega)) (val_take_lt ys hy k (by omega)), cmpTop_eq hx hy k (by omega) (by omega)]
theorem cmpL_dig (a b : Nat) : cmpL (dig a) (dig b) = sgn a b := by
 unfold cmpL
 by_cases h : (dig a).length = (dig b).length
 ·rw [if_pos h, cmpTop_eq (digs_dig a) (digs_dig b) _ (Nat.le_refl _) (by omega), List.take_length, h, List.take_length, val_dig, val_dig]
 ·rw [if_neg h]
  have key : ∀ a b, (dig a).length < (dig b).length → a < b := fun a b h => by
   have h1 := val_lt (digs_dig a); rw [val_dig] at h1
   have h2 := val_ge_of_lead (lead_dig b) (by omega); rw [val_dig] at h2
   have : 4294967296 ^ (dig a).length ≤ 4294967296 ^ ((dig b).length - 1) := Nat.pow_le_pow_right (by omega) (by omega)
   omega
  by_cases h1 : (dig a).length < (dig b).length
  ·rw [if_pos h1]; have := key a b h1; unfold sgn; rw [if_pos this]
  ·rw [if_neg h1]; have := key b a (by omega); unfold sgn; rw [if_neg (by omega), if_pos this]
theorem sgn_lt {a b : Nat} (h : a < b) : sgn a b = -1 := by unfold sgn; rw [if_pos h]
theorem sgn_gt {a b : Nat} (h : b < a) : sgn a b = 1 := by unfold sgn; rw [if_neg (by omega), if_pos h]
theorem sgn_self (a : Nat) : sgn a a = 0 := by unfold sgn; rw [if_neg (by omega), if_neg (by omega)]
theorem sgn_nonneg {a b : Nat} : 0 ≤ sgn a b ↔ b ≤ a := by
 unfold sgn; split
 ·constructor <;> intro h <;> omega
 ·split <;> constructor <;> intro h <;> omega
end Go.Proofs.YthblaeleogdfpaaGreatDoor.Fr
