/- Plain: trying all pairings finds the one that is taken greedily. No program in sight. -/
import Derived.Test.YtdncdlcfgljheaaFg
namespace Go.Proofs.Ytdncdlcfgljheaa
namespace Mt

theorem rows_le {N : Net} {i m n : Nat} {M : List (Nat × Nat)} (h : Pairs N i m n M) : M.length ≤ m - i := by
  rw [← List.length_map (f := (·.1)), ← List.length_range' (s := i) (n := m - i) (step := 1)]
  refine nodup_le _ _ h.rows (fun x hx => ?_)
  obtain ⟨p, hp, rfl⟩ := List.mem_map.1 hx
  have hr := h.real p hp
  rw [List.mem_range']
  exact ⟨p.1 - i, by omega, by omega⟩
theorem best_exists (N : Net) (i m n : Nat) : ∃ s, Best N i m n s := by
  have key : ∀ d, (∀ M, Pairs N i m n M → M.length ≤ d) → ∃ s, Best N i m n s := by
    intro d
    induction d with
    | zero => intro h; exact ⟨0, ⟨[], ⟨by simp, by simp, fun p hp => by simp at hp⟩, rfl⟩, h⟩
    | succ d ih =>
      intro h
      by_cases he : ∃ M, Pairs N i m n M ∧ M.length = d + 1
      · exact ⟨d + 1, he, h⟩
      · exact ih (fun M hM => by
          have h1 := h M hM
          have h2 : M.length ≠ d + 1 := fun e => he ⟨M, hM, e⟩
          omega)
  exact key (m - i) (fun M hM => rows_le hM)

/-- all ways to go on from row 'i', 'n' rows to come, the empty one left out -/
def rest (S : Nat → Nat → Bool) (nv : Nat) : Nat → Nat → (Nat → Bool) → List (List (Nat × Nat))
  | 0, _, _ => []
  | n + 1, i, F => (List.range nv).flatMap (fun j => if !F j && S i j then ([] :: rest S nv n (i + 1) (mark F j true)).map ((i, j) :: ·) else []) ++ rest S nv n (i + 1) F
/-- what row 'i' gives with column 'j' -/
def rowX (S : Nat → Nat → Bool) (nv n i : Nat) (F : Nat → Bool) (j : Nat) : List (List (Nat × Nat)) :=
  if !F j && S i j then ([] :: rest S nv n (i + 1) (mark F j true)).map ((i, j) :: ·) else []
theorem rest_succ (S : Nat → Nat → Bool) (nv n i : Nat) (F : Nat → Bool) : rest S nv (n + 1) i F = (List.range nv).flatMap (rowX S nv n i F) ++ rest S nv n (i + 1) F := rfl

theorem mark_edge {S : Nat → Nat → Bool} {nv : Nat} {F : Nat → Bool} {j x c : Nat} : (fixed S nv (mark F j true)).edge x c ↔ (fixed S nv F).edge x c ∧ c ≠ j := fix_edge (N := fixed S nv F)

theorem rest_pairs {S : Nat → Nat → Bool} {nv nq : Nat} : ∀ (n i : Nat) (F : Nat → Bool) (x : List (Nat × Nat)), i + n = nq → x ∈ [] :: rest S nv n i F → Pairs (fixed S nv F) i nq nv x := by
  intro n
  induction n with
  | zero =>
    intro i F x _ hx
    simp [rest] at hx
    subst hx
    exact ⟨by simp, by simp, fun p hp => by simp at hp⟩
  | succ n ih =>
    intro i F x hi hx
    rcases List.mem_cons.1 hx with rfl | hx
    · exact ⟨by simp, by simp, fun p hp => by simp at hp⟩
    · rw [rest_succ, List.mem_append] at hx
      rcases hx with hx | hx
      · obtain ⟨j, hj, hx⟩ := List.mem_flatMap.1 hx
        unfold rowX at hx
        split at hx
        · rename_i hc
          simp only [Bool.and_eq_true, Bool.not_eq_true'] at hc
          obtain ⟨y, hy, rfl⟩ := List.mem_map.1 hx
          have h := ih (i + 1) (mark F j true) y (by omega) hy
          exact Pairs.cons (N := fixed S nv F) h (by omega) (List.mem_range.1 hj) ⟨nearE_mem.2 ⟨List.mem_range.1 hj, hc.2⟩, hc.1⟩
        · simp at hx
      · exact (ih (i + 1) F x (by omega) (by simp [hx])).later

/-- 'ps' is the first of the longest ones in 'L', and 'o' long -/
def FM (L : List (List (Nat × Nat))) (o : Nat) (ps : List (Nat × Nat)) : Prop :=
  ∃ A B, L = A ++ ps :: B ∧ (∀ x ∈ A, x.length < o) ∧ (∀ x ∈ B, x.length ≤ o) ∧ ps.length = o

def pick (b c : List (Nat × Nat)) : List (Nat × Nat) := if b.length < c.length then c else b
theorem pick_all_le : ∀ (L : List (List (Nat × Nat))) (b : List (Nat × Nat)), (∀ x ∈ L, x.length ≤ b.length) → L.foldl pick b = b
  | [], _, _ => rfl
  | a :: L, b, h => by
    have h1 := h a (by simp)
    rw [List.foldl_cons, show pick b a = b from by unfold pick; rw [if_neg (by omega)]]
    exact pick_all_le L b (fun x hx => h x (by simp [hx]))
theorem pick_all_lt (o : Nat) : ∀ (L : List (List (Nat × Nat))) (b : List (Nat × Nat)), b.length < o → (∀ x ∈ L, x.length < o) → (L.foldl pick b).length < o
  | [], _, hb, _ => hb
  | a :: L, b, hb, h => by
    rw [List.foldl_cons]
    refine pick_all_lt o L _ ?_ (fun x hx => h x (by simp [hx]))
    unfold pick
    split
    · exact h a (by simp)
    · exact hb
theorem FM.fold {L : List (List (Nat × Nat))} {o : Nat} {ps : List (Nat × Nat)} (h : FM L o ps) {b : List (Nat × Nat)} (hb : b.length < o) : L.foldl pick b = ps := by
  obtain ⟨A, B, rfl, h1, h2, h3⟩ := h
  rw [List.foldl_append, List.foldl_cons]
  have h4 := pick_all_lt o A b hb h1
  generalize A.foldl pick b = c at h4 ⊢
  rw [show pick c ps = ps from by unfold pick; rw [if_pos (by omega)]]
  exact pick_all_le B ps (fun x hx => by rw [h3]; exact h2 x hx)

theorem near_sorted (S : Nat → Nat → Bool) (nv i : Nat) : (nearE S nv i).Pairwise (· < ·) := List.Pairwise.filter _ List.pairwise_lt_range
theorem near_take {S : Nat → Nat → Bool} {nv i q j : Nat} (hq : q < (nearE S nv i).length) (hj : j ∈ nearE S nv i) (hlt : j < (nearE S nv i).getD q 0) : j ∈ (nearE S nv i).take q := by
  obtain ⟨p, hp, rfl⟩ := List.mem_iff_getElem.1 hj
  have hg : (nearE S nv i).getD q 0 = (nearE S nv i)[q] := by simp [List.getD, hq]
  rw [hg] at hlt
  have hpq : p < q := by
    rcases Nat.lt_trichotomy p q with h | h | h
    · exact h
    · subst h; omega
    · have := List.pairwise_iff_getElem.1 (near_sorted S nv i) q p hq hp h
      omega
  rw [List.mem_take_iff_getElem]
  exact ⟨p, by omega, rfl⟩

/-- what a column gives that no greatest pairing goes on with is shorter -/
theorem rowX_short {S : Nat → Nat → Bool} {nv nq n i o j : Nat} {F : Nat → Bool} (hi : i + (n + 1) = nq) (hj : j < nv) (hb : Best (fixed S nv F) i nq nv (o + 1))
    (hno : j ∈ nearE S nv i → F j = false → ¬ Best (fixed S nv (mark F j true)) (i + 1) nq nv o) : ∀ x ∈ rowX S nv n i F j, x.length < o + 1 := by
  intro x hx
  unfold rowX at hx
  split at hx
  · rename_i hc
    simp only [Bool.and_eq_true, Bool.not_eq_true'] at hc
    obtain ⟨y, hy, rfl⟩ := List.mem_map.1 hx
    have hm : j ∈ nearE S nv i := nearE_mem.2 ⟨hj, hc.2⟩
    have hn := hno hm hc.1
    obtain ⟨s, hs⟩ := best_exists (fixed S nv (mark F j true)) (i + 1) nq nv
    have h1 := Best.take (N := fixed S nv F) hb (by omega) hj ⟨hm, hc.1⟩ hs
    have h2 : s ≠ o := fun e => hn (e ▸ hs)
    have h3 := hs.2 y (rest_pairs n (i + 1) (mark F j true) y (by omega) hy)
    simp only [List.length_cons]
    omega
  · simp at hx

theorem greedy_first {S : Nat → Nat → Bool} {nv nq k o : Nat} {F : Nat → Bool} {ps : List (Nat × Nat)} (h : Greedy S nq nv k F o ps) : ∀ n, k + n = nq → Best (fixed S nv F) k nq nv o → FM ([] :: rest S nv n k F) o ps := by
  induction h with
  | @done k F =>
    intro n hn hb
    refine ⟨[], rest S nv n k F, rfl, by simp, fun x hx => hb.2 x (rest_pairs n k F x hn (by simp [hx])), rfl⟩
  | @take k q o F ps hq hF hbt hno hg ih =>
    intro n hn hb
    have hj : (nearE S nv k).getD q 0 ∈ nearE S nv k := by simp [List.getD, hq]
    have hne : ∀ j, j < (nearE S nv k).getD q 0 → j ∈ nearE S nv k → F j = false → ¬ Best (fixed S nv (mark F j true)) (k + 1) nq nv o := fun j hlt hm hf => hno j (near_take hq hm hlt) hf
    generalize (nearE S nv k).getD q 0 = j at *
    have hjm := nearE_mem.1 hj
    have hkq : k < nq := hb.low (by omega)
    obtain ⟨n, rfl⟩ : ∃ m, n = m + 1 := ⟨n - 1, by omega⟩
    obtain ⟨A, B, hAB, h1, h2, h3⟩ := ih n (by omega) hbt
    have hsplit : List.range nv = List.range j ++ j :: (List.range' (j + 1) (nv - j - 1)) := by
      rw [List.range_eq_range', List.range_eq_range']
      have e : nv = j + (1 + (nv - j - 1)) := by omega
      conv => lhs; rw [e, ← List.range'_append_1]
      rw [Nat.zero_add, List.range'_append_1.symm, List.range'_one]
      rfl
    have hrow : rowX S nv n k F j = (A.map ((k, j) :: ·)) ++ ((k, j) :: ps) :: (B.map ((k, j) :: ·)) := by
      unfold rowX
      rw [if_pos (by simp [hF, hjm.2]), hAB, List.map_append, List.map_cons]
    refine ⟨[] :: ((List.range j).flatMap (rowX S nv n k F) ++ A.map ((k, j) :: ·)), B.map ((k, j) :: ·) ++ ((List.range' (j + 1) (nv - j - 1)).flatMap (rowX S nv n k F) ++ rest S nv n (k + 1) F), ?_, ?_, ?_, by simp [h3]⟩
    · rw [rest_succ, hsplit, List.flatMap_append, List.flatMap_cons, hrow]
      simp
    · intro x hx
      rcases List.mem_cons.1 hx with rfl | hx
      · simp
      · rcases List.mem_append.1 hx with hx | hx
        · obtain ⟨j', hj', hx⟩ := List.mem_flatMap.1 hx
          have hlt := List.mem_range.1 hj'
          exact rowX_short (nq := nq) (by omega) (by omega) hb (hne j' hlt) x hx
        · obtain ⟨y, hy, rfl⟩ := List.mem_map.1 hx
          have := h1 y hy
          simp; omega
    · have hall : ∀ x ∈ [] :: rest S nv (n + 1) k F, x.length ≤ o + 1 := fun x hx => hb.2 x (rest_pairs (n + 1) k F x hn hx)
      intro x hx
      apply hall
      rw [rest_succ, hsplit, List.flatMap_append, List.flatMap_cons, hrow]
      rcases List.mem_append.1 hx with hx | hx
      · simp only [List.mem_cons, List.mem_append]
        exact .inr (.inl (.inr (.inl (.inr (.inr hx)))))
      · rcases List.mem_append.1 hx with hx | hx
        · simp only [List.mem_cons, List.mem_append]
          exact .inr (.inl (.inr (.inr hx)))
        · simp only [List.mem_cons, List.mem_append]
          exact .inr (.inr hx)
  | @leave k o F ps hno hg ih =>
    intro n hn hb
    have hkq : k < nq := hb.low (by omega)
    obtain ⟨n, rfl⟩ : ∃ m, n = m + 1 := ⟨n - 1, by omega⟩
    have hb2 : Best (fixed S nv F) (k + 1) nq nv (o + 1) := Best.leave (N := fixed S nv F) hb (fun j hj he hB => hno j he.1 he.2 hB)
    obtain ⟨A, B, hAB, h1, h2, h3⟩ := ih n (by omega) hb2
    cases A with
    | nil =>
      simp at hAB
      obtain ⟨h4, -⟩ := hAB
      subst h4
      simp at h3
    | cons a A =>
      simp at hAB
      obtain ⟨rfl, hAB⟩ := hAB
      refine ⟨[] :: ((List.range nv).flatMap (rowX S nv n k F) ++ A), B, by rw [rest_succ, hAB]; simp, fun x hx => ?_, h2, h3⟩
      rcases List.mem_cons.1 hx with rfl | hx
      · simp
      · rcases List.mem_append.1 hx with hx | hx
        · obtain ⟨j, hj, hx⟩ := List.mem_flatMap.1 hx
          exact rowX_short (nq := nq) (by omega) (List.mem_range.1 hj) hb (hno j) x hx
        · exact h1 x (by simp [hx])

/-- trying all finds what was found -/
theorem Found.tried {S : Nat → Nat → Bool} {nq nv : Nat} {ps : List (Nat × Nat)} (h : Found S nq nv ps) : (rest S nv nq 0 (fun _ => false)).foldl pick [] = ps := by
  have hf := greedy_first h.first nq (by omega) h.best
  rcases Nat.eq_zero_or_pos ps.length with h0 | h0
  · have hps : ps = [] := List.eq_nil_of_length_eq_zero h0
    subst hps
    exact pick_all_le _ _ (fun x hx => h.best.2 x (rest_pairs nq 0 _ x (by omega) (by simp [hx])))
  · have := hf.fold (b := []) (by simpa using h0)
    rw [List.foldl_cons, show pick [] [] = [] from rfl] at this
    exact this

end Mt
end Go.Proofs.Ytdncdlcfgljheaa
