/- Plain: near texts by edit distance, what they cover, and how that grows with the limit. No program in sight. -/
import Derived.Test.YtdncdlcfgljheaaMt
import Derived.Test.YtdncdlcfgljheaaLv
namespace Go.Proofs.Ytdncdlcfgljheaa
namespace Mt

/-- which of two lists of texts are near -/
def nearE (S : Nat → Nat → Bool) (nv : Nat) (i : Nat) : List Nat := (List.range nv).filter (S i)
def matchesP (S : Nat → Nat → Bool) (nq nv : Nat) : List (Nat × Nat) := (List.range nq).flatMap fun i => (nearE S nv i).map fun j => (i, j)
def coveredP (S : Nat → Nat → Bool) (nq nv : Nat) : Nat := ((List.range nq).filter fun i => decide (0 < (nearE S nv i).length)).length

theorem nearE_mem {S : Nat → Nat → Bool} {nv i c : Nat} : c ∈ nearE S nv i ↔ c < nv ∧ S i c = true := by
  unfold nearE; rw [List.mem_filter, List.mem_range]

theorem filter_mono {α : Type} (p q : α → Bool) (h : ∀ x, p x = true → q x = true) : ∀ l : List α, (l.filter p).length ≤ (l.filter q).length
  | [] => by simp
  | a :: l => by
    have ih := filter_mono p q h l
    rw [List.filter_cons, List.filter_cons]
    by_cases hp : p a = true
    · rw [if_pos hp, if_pos (h a hp)]; simp; omega
    · rw [if_neg hp]
      split
      · simp; omega
      · exact ih

theorem nearE_mono {S T : Nat → Nat → Bool} (h : ∀ i j, S i j = true → T i j = true) (nv i : Nat) : (nearE S nv i).length ≤ (nearE T nv i).length :=
  filter_mono _ _ (h i) _

theorem coveredP_mono {S T : Nat → Nat → Bool} (h : ∀ i j, S i j = true → T i j = true) (nq nv : Nat) : coveredP S nq nv ≤ coveredP T nq nv := by
  unfold coveredP
  apply filter_mono
  intro i hi
  have := nearE_mono h nv i
  have hi' := of_decide_eq_true hi
  exact decide_eq_true (by omega)

theorem matchesP_mono {S T : Nat → Nat → Bool} (h : ∀ i j, S i j = true → T i j = true) (nq nv : Nat) : (matchesP S nq nv).length ≤ (matchesP T nq nv).length := by
  unfold matchesP
  generalize List.range nq = l
  induction l with
  | nil => simp
  | cons a l ih =>
    have := nearE_mono h nv a
    simp only [List.flatMap_cons, List.length_append, List.length_map]
    omega

/-- The net behind some taken columns. -/
def fixed (S : Nat → Nat → Bool) (nv : Nat) (F : Nat → Bool) : Net := ⟨nearE S nv, F⟩

/-- The pairs that are taken from row 'k' on, 'o' of them: each is the first one that a greatest pairing goes on with. -/
inductive Greedy (S : Nat → Nat → Bool) (nq nv : Nat) : Nat → (Nat → Bool) → Nat → List (Nat × Nat) → Prop
  | done {k : Nat} {F : Nat → Bool} : Greedy S nq nv k F 0 []
  | take {k q o : Nat} {F : Nat → Bool} {ps : List (Nat × Nat)} (hq : q < (nearE S nv k).length) (hF : F ((nearE S nv k).getD q 0) = false)
      (hb : Best (fixed S nv (mark F ((nearE S nv k).getD q 0) true)) (k + 1) nq nv o)
      (hno : ∀ j, j ∈ (nearE S nv k).take q → F j = false → ¬ Best (fixed S nv (mark F j true)) (k + 1) nq nv o)
      (h : Greedy S nq nv (k + 1) (mark F ((nearE S nv k).getD q 0) true) o ps) : Greedy S nq nv k F (o + 1) ((k, (nearE S nv k).getD q 0) :: ps)
  | leave {k o : Nat} {F : Nat → Bool} {ps : List (Nat × Nat)} (hno : ∀ j, j ∈ nearE S nv k → F j = false → ¬ Best (fixed S nv (mark F j true)) (k + 1) nq nv o)
      (h : Greedy S nq nv (k + 1) F (o + 1) ps) : Greedy S nq nv k F (o + 1) ps

/-- What is known of a pairing that was found. -/
structure Found (S : Nat → Nat → Bool) (nq nv : Nat) (l : List (Nat × Nat)) : Prop where
  best : Best ⟨nearE S nv, fun _ => false⟩ 0 nq nv l.length
  up : l.Pairwise (fun p q => p.1 < q.1 ∧ p.2 ≠ q.2)
  real : ∀ p ∈ l, p.1 < nq ∧ p.2 < nv ∧ S p.1 p.2 = true
  first : Greedy S nq nv 0 (fun _ => false) l.length l

theorem Found.rows {S : Nat → Nat → Bool} {nq nv : Nat} {l : List (Nat × Nat)} (h : Found S nq nv l) : (l.map (·.1)).Nodup := by
  rw [List.Nodup, List.pairwise_map]
  exact h.up.imp (fun h => by omega)
theorem Found.cols {S : Nat → Nat → Bool} {nq nv : Nat} {l : List (Nat × Nat)} (h : Found S nq nv l) : (l.map (·.2)).Nodup := by
  rw [List.Nodup, List.pairwise_map]
  exact h.up.imp (fun h => h.2)

theorem Found.le_left {S : Nat → Nat → Bool} {nq nv : Nat} {l : List (Nat × Nat)} (h : Found S nq nv l) : l.length ≤ coveredP S nq nv := by
  rw [← List.length_map (f := (·.1))]
  refine nodup_le _ _ h.rows (fun x hx => ?_)
  obtain ⟨p, hp, rfl⟩ := List.mem_map.1 hx
  have hr := h.real p hp
  rw [List.mem_filter]
  exact ⟨List.mem_range.2 hr.1, decide_eq_true (List.length_pos_of_mem (nearE_mem.2 ⟨hr.2.1, hr.2.2⟩))⟩
theorem Found.le_right {S T : Nat → Nat → Bool} (hST : ∀ i j, S i j = true → T j i = true) {nq nv : Nat} {l : List (Nat × Nat)} (h : Found S nq nv l) : l.length ≤ coveredP T nv nq := by
  rw [← List.length_map (f := (·.2))]
  refine nodup_le _ _ h.cols (fun x hx => ?_)
  obtain ⟨p, hp, rfl⟩ := List.mem_map.1 hx
  have hr := h.real p hp
  rw [List.mem_filter]
  exact ⟨List.mem_range.2 hr.2.1, decide_eq_true (List.length_pos_of_mem (nearE_mem.2 ⟨hr.1, hST _ _ hr.2.2⟩))⟩

theorem Found.mono {S T : Nat → Nat → Bool} {nq nv : Nat} {l m : List (Nat × Nat)} (hST : ∀ i j, S i j = true → T i j = true) (h : Found S nq nv l) (h' : Found T nq nv m) : l.length ≤ m.length :=
  h.best.mono h'.best (fun x c he => ⟨by
    have := nearE_mem.1 he.1
    exact nearE_mem.2 ⟨this.1, hST _ _ this.2⟩, rfl⟩)

/-! ### The search of the first greatest pairing -/

theorem Best.edges {N N' : Net} {i m n s : Nat} (h : Best N i m n s) (he : ∀ x c, N.edge x c ↔ N'.edge x c) : Best N' i m n s := by
  obtain ⟨⟨M, h1, h2⟩, h3⟩ := h
  exact ⟨⟨M, ⟨h1.rows, h1.cols, fun p hp => by have := h1.real p hp; exact ⟨this.1, this.2.1, this.2.2.1, (he _ _).1 this.2.2.2⟩⟩, h2⟩,
    fun M' hM' => h3 M' ⟨hM'.rows, hM'.cols, fun p hp => by have := hM'.real p hp; exact ⟨this.1, this.2.1, this.2.2.1, (he _ _).2 this.2.2.2⟩⟩⟩

/-- The state ahead of row 'i'. -/
structure Taken (S : Nat → Nat → Bool) (nq nv s0 i open_ : Nat) (F : Nat → Bool) (out : List (Nat × Nat)) : Prop where
  best : Best (fixed S nv F) i nq nv open_
  size : out.length + open_ = s0
  up : out.Pairwise (fun p q => p.1 < q.1 ∧ p.2 ≠ q.2)
  real : ∀ p ∈ out, p.1 < i ∧ p.1 < nq ∧ p.2 < nv ∧ S p.1 p.2 = true ∧ F p.2 = true
  first : ∀ rest, Greedy S nq nv i F open_ rest → Greedy S nq nv 0 (fun _ => false) s0 (out ++ rest)

theorem Taken.start {S : Nat → Nat → Bool} {nq nv s0 : Nat} (h : Best (fixed S nv (fun _ => false)) 0 nq nv s0) : Taken S nq nv s0 0 s0 (fun _ => false) [] :=
  ⟨h, by simp, List.Pairwise.nil, by simp, fun _ h => h⟩
theorem Taken.take {S : Nat → Nat → Bool} {nq nv s0 i o j q : Nat} {F : Nat → Bool} {out : List (Nat × Nat)} (h : Taken S nq nv s0 i (o + 1) F out) (hj : j ∈ nearE S nv i) (hF : F j = false)
    (hq : q < (nearE S nv i).length) (hjq : (nearE S nv i).getD q 0 = j) (hno : ∀ j, j ∈ (nearE S nv i).take q → F j = false → ¬ Best (fixed S nv (mark F j true)) (i + 1) nq nv o)
    (hb : Best (fixed S nv (mark F j true)) (i + 1) nq nv o) : Taken S nq nv s0 (i + 1) o (mark F j true) (out ++ [(i, j)]) where
  best := hb
  size := by have := h.size; simp; omega
  up := by
    rw [List.pairwise_append]
    refine ⟨h.up, List.pairwise_singleton _ _, fun p hp q hq => ?_⟩
    rw [List.mem_singleton] at hq
    subst hq
    have hr := h.real p hp
    exact ⟨hr.1, fun e => by have e' : p.2 = j := e; rw [← e', hr.2.2.2.2] at hF; cases hF⟩
  real p hp := by
    have hi := h.best.low (by omega)
    rw [List.mem_append, List.mem_singleton] at hp
    rcases hp with hp | rfl
    · have hr := h.real p hp
      refine ⟨by omega, hr.2.1, hr.2.2.1, hr.2.2.2.1, ?_⟩
      unfold mark; split
      · rfl
      · exact hr.2.2.2.2
    · have := nearE_mem.1 hj
      exact ⟨by simp, hi, this.1, this.2, by simp [mark]⟩
  first rest hr := by
    subst hjq
    rw [List.append_assoc]
    exact h.first _ (Greedy.take hq hF hb hno hr)
theorem Taken.leave {S : Nat → Nat → Bool} {nq nv s0 i o : Nat} {F : Nat → Bool} {out : List (Nat × Nat)} (h : Taken S nq nv s0 i (o + 1) F out)
    (hno : ∀ j, j ∈ nearE S nv i → F j = false → ¬ Best (fixed S nv (mark F j true)) (i + 1) nq nv o) : Taken S nq nv s0 (i + 1) (o + 1) F out where
  best := h.best.leave (fun j hj he hB => hno j he.1 he.2 hB)
  size := h.size
  up := h.up
  real p hp := by have hr := h.real p hp; exact ⟨by omega, hr.2⟩
  first rest hr := h.first _ (Greedy.leave hno hr)
theorem Taken.found {S : Nat → Nat → Bool} {nq nv s0 i : Nat} {F : Nat → Bool} {out : List (Nat × Nat)} (h0 : Best (fixed S nv (fun _ => false)) 0 nq nv s0) (h : Taken S nq nv s0 i 0 F out) : Found S nq nv out where
  best := by have := h.size; rw [show out.length = s0 by omega]; exact h0
  up := h.up
  real p hp := by have hr := h.real p hp; exact ⟨hr.2.1, hr.2.2.1, hr.2.2.2.1⟩
  first := by
    have h1 := h.first [] Greedy.done
    have h2 := h.size
    rw [List.append_nil] at h1
    rw [show out.length = s0 by omega]
    exact h1

end Mt

namespace Lv
/-- near by a limit: 'c' counts the points, 'x' lists them -/
def within (x y : List Nat) (n : Nat) : Bool := decide (x.length ≤ y.length + n ∧ y.length ≤ x.length + n ∧ lev x y ≤ n)
def near1 (c d : Nat) (x y : List Nat) (n : Nat) : Bool := decide (c ≤ d + n ∧ d ≤ c + n) && within x y n

theorem within_comm (x y : List Nat) (n : Nat) : within x y n = within y x n := by
  unfold within; rw [lev_comm x y, Bool.eq_iff_iff, decide_eq_true_eq, decide_eq_true_eq]
  omega
theorem near1_comm (c d : Nat) (x y : List Nat) (n : Nat) : near1 c d x y n = near1 d c y x n := by
  unfold near1
  rw [within_comm x y, Bool.eq_iff_iff, Bool.and_eq_true, Bool.and_eq_true, decide_eq_true_eq, decide_eq_true_eq]
  constructor
  · rintro ⟨⟨h1, h2⟩, h3⟩; exact ⟨⟨h2, h1⟩, h3⟩
  · rintro ⟨⟨h1, h2⟩, h3⟩; exact ⟨⟨h2, h1⟩, h3⟩
theorem within_mono {x y : List Nat} {n m : Nat} (h : n ≤ m) (hw : within x y n = true) : within x y m = true := by
  unfold within at *
  rw [decide_eq_true_eq] at *
  omega
theorem near1_mono {c d : Nat} {x y : List Nat} {n m : Nat} (h : n ≤ m) (hw : near1 c d x y n = true) : near1 c d x y m = true := by
  unfold near1 at *
  rw [Bool.and_eq_true, decide_eq_true_eq] at *
  exact ⟨by omega, within_mono h hw.2⟩
theorem near1_lev {c d : Nat} {x y : List Nat} {n : Nat} (h : near1 c d x y n = true) : lev x y ≤ n := by
  unfold near1 within at h
  rw [Bool.and_eq_true, decide_eq_true_eq, decide_eq_true_eq] at h
  omega
/-- the lengths are near where the distance is small -/
theorem within_lev (x y : List Nat) (n : Nat) : within x y n = decide (lev x y ≤ n) := by
  unfold within
  have h : x.length ≤ lev x y + y.length ∧ y.length ≤ lev x y + x.length := dist_ge x y _ _
  rw [Bool.eq_iff_iff, decide_eq_true_eq, decide_eq_true_eq]
  omega
end Lv
end Go.Proofs.Ytdncdlcfgljheaa
