/- Plain: pairings of rows with columns. The search for augmenting ways finds a greatest one. No program in sight. -/
import Derived.WalkKit
namespace Go.Proofs.Ytdncdlcfgljheaa
namespace Mt

/-- A list without repetitions inside another one is no longer. -/
theorem nodup_le {α : Type} [DecidableEq α] : ∀ (l m : List α), l.Nodup → (∀ x ∈ l, x ∈ m) → l.length ≤ m.length := by
  intro l
  induction l with
  | nil => intro m _ _; simp
  | cons a t ih =>
    intro m hn hs
    have ha : a ∈ m := hs a (by simp)
    have hn' := List.nodup_cons.1 hn
    have h1 := ih (m.erase a) hn'.2 (fun x hx => by
      have hne : x ≠ a := fun e => hn'.1 (e ▸ hx)
      exact (List.mem_erase_of_ne hne).2 (hs x (by simp [hx])))
    rw [List.length_erase_of_mem ha] at h1
    have : 0 < m.length := List.length_pos_of_mem ha
    simp only [List.length_cons]
    omega

/-- What each column has: a row or none. -/
abbrev Of := Nat → Option Nat

def upd (f : Of) (j : Nat) (v : Option Nat) : Of := fun c => if c = j then v else f c
def mark (f : Nat → Bool) (j : Nat) (v : Bool) : Nat → Bool := fun c => if c = j then v else f c

def cnt (n : Nat) (f : Of) (x : Nat) : Nat := ((List.range n).filter (fun c => f c == some x)).length
def tot (n : Nat) (f : Of) : Nat := ((List.range n).filter (fun c => (f c).isSome)).length

theorem filt_upd (n : Nat) (p q : Nat → Bool) (j : Nat) (hj : j < n) (h : ∀ c, c ≠ j → p c = q c) :
    ((List.range n).filter q).length + (if p j then 1 else 0) = ((List.range n).filter p).length + (if q j then 1 else 0) := by
  induction n with
  | zero => omega
  | succ n ih =>
    rw [List.range_succ, List.filter_append, List.filter_append, List.length_append, List.length_append]
    by_cases e : j = n
    · subst e
      have h1 : ((List.range j).filter q) = ((List.range j).filter p) := by
        apply List.filter_congr
        intro x hx
        have := List.mem_range.1 hx
        exact (h x (by omega)).symm
      rw [h1]
      cases hp : p j <;> cases hq : q j <;> simp [List.filter_cons, hp, hq]
    · have h2 := ih (by omega)
      have h3 := h n (fun e' => e e'.symm)
      cases hq : q n <;> simp [List.filter_cons, h3, hq] <;> omega

theorem cnt_upd (n : Nat) (f : Of) (j i x : Nat) (hj : j < n) : cnt n (upd f j (some i)) x + (if f j = some x then 1 else 0) = cnt n f x + (if i = x then 1 else 0) := by
  have h := filt_upd n (fun c => f c == some x) (fun c => upd f j (some i) c == some x) j hj (fun c hc => by simp [upd, hc])
  have e2 : (upd f j (some i) j == some x) = decide (i = x) := by
    unfold upd; rw [if_pos rfl]
    by_cases e : i = x <;> simp [e]
  have e1 : (f j == some x) = decide (f j = some x) := by
    by_cases e : f j = some x <;> simp [e]
  simp only [e1, e2, decide_eq_true_eq] at h
  exact h

theorem tot_upd (n : Nat) (f : Of) (j i : Nat) (hj : j < n) : tot n (upd f j (some i)) + (if (f j).isSome then 1 else 0) = tot n f + 1 := by
  have h := filt_upd n (fun c => (f c).isSome) (fun c => (upd f j (some i) c).isSome) j hj (fun c hc => by simp [upd, hc])
  have e2 : (upd f j (some i) j).isSome = true := by simp [upd]
  simp only [e2, if_true] at h
  exact h

theorem cnt_pos {n : Nat} {f : Of} {x : Nat} (h : 0 < cnt n f x) : ∃ c, c < n ∧ f c = some x := by
  unfold cnt at h
  obtain ⟨c, hc⟩ := List.exists_mem_of_length_pos h
  rw [List.mem_filter] at hc
  exact ⟨c, List.mem_range.1 hc.1, by simpa using hc.2⟩

theorem cnt_one {n : Nat} {f : Of} {x c d : Nat} (h : cnt n f x ≤ 1) (hc : c < n) (hd : d < n) (e1 : f c = some x) (e2 : f d = some x) : c = d := by
  apply Classical.byContradiction
  intro hne
  have hn : ([c, d] : List Nat).Nodup := by simp [hne]
  have := nodup_le [c, d] ((List.range n).filter (fun c => f c == some x)) hn (fun y hy => by
    rw [List.mem_filter]
    rcases List.mem_cons.1 hy with rfl | hy
    · exact ⟨List.mem_range.2 hc, by simp [e1]⟩
    · rcases List.mem_cons.1 hy with rfl | hy
      · exact ⟨List.mem_range.2 hd, by simp [e2]⟩
      · simp at hy)
  unfold cnt at h
  simp at this
  omega

/-- The near columns of each row, those that are fixed. -/
structure Net where
  E : Nat → List Nat
  F : Nat → Bool

def Net.edge (N : Net) (x c : Nat) : Prop := c ∈ N.E x ∧ N.F c = false

/-- Nothing leads out of 'D' but into 'T', and the columns of 'T' belong to rows of 'D'. -/
def Shut (N : Net) (f : Of) (D T : Nat → Prop) : Prop :=
  (∀ x, D x → ∀ c, N.edge x c → T c) ∧ (∀ c, T c → ∃ x, D x ∧ f c = some x)

/-- The search from row 'i' has failed: 't' was tried before, 't'' is now. -/
structure Failed (N : Net) (f : Of) (i : Nat) (t t' : Nat → Bool) : Prop where
  more : ∀ c, t c = true → t' c = true
  mine : ∀ c, N.edge i c → t' c = true
  shut : ∀ c, t' c = true → t c = false → ∃ x, f c = some x ∧ ∀ d, N.edge x d → t' d = true

/-- The search from row 'i' has found a way. -/
structure Grown (N : Net) (n : Nat) (f f' : Of) (i : Nat) (t : Nat → Bool) : Prop where
  kept : ∀ c, t c = true → f' c = f c
  real : ∀ c x, f' c = some x → f c = some x ∨ (N.edge x c)
  count : ∀ x, cnt n f' x = cnt n f x + (if i = x then 1 else 0)
  total : tot n f' = tot n f + 1
  dead : ∀ D T, Shut N f D T → ¬ D i ∧ ∀ c, T c → f' c = f c

theorem Grown.free {N : Net} {n : Nat} {f : Of} {i j : Nat} {t : Nat → Bool} (hj : j < n) (he : N.edge i j) (ht : t j = false) (hf : f j = none) : Grown N n f (upd f j (some i)) i t where
  kept c hc := by
    have : c ≠ j := fun e => by subst e; rw [ht] at hc; cases hc
    simp [upd, this]
  real c x h := by
    by_cases e : c = j
    · subst e
      rw [upd, if_pos rfl] at h
      injection h with h; subst h
      exact .inr he
    · rw [upd, if_neg e] at h
      exact .inl h
  count x := by
    have h := cnt_upd n f j i x hj
    rw [hf] at h
    simpa using h
  total := by
    have h := tot_upd n f j i hj
    rw [hf] at h
    simpa using h
  dead D T hs := by
    have hT : ¬ T j := fun h => by
      obtain ⟨x, _, e⟩ := hs.2 j h
      rw [hf] at e; cases e
    refine ⟨fun h => hT (hs.1 i h j he), fun c hc => ?_⟩
    have : c ≠ j := fun e => hT (e ▸ hc)
    simp [upd, this]

theorem Grown.on {N : Net} {n : Nat} {f f' : Of} {i j r : Nat} {t t1 : Nat → Bool} (hj : j < n) (he : N.edge i j) (ht : t j = false) (hf : f j = some r)
    (hm : ∀ c, t c = true → t1 c = true) (hg : Grown N n f f' r (mark t1 j true)) : Grown N n f (upd f' j (some i)) i t where
  kept c hc := by
    have : c ≠ j := fun e => by subst e; rw [ht] at hc; cases hc
    rw [upd, if_neg this]
    exact hg.kept c (by unfold mark; rw [if_neg this]; exact hm c hc)
  real c x h := by
    by_cases e : c = j
    · subst e
      rw [upd, if_pos rfl] at h
      injection h with h; subst h
      exact .inr he
    · rw [upd, if_neg e] at h
      exact hg.real c x h
  count x := by
    have h := cnt_upd n f' j i x hj
    have h2 := hg.count x
    have h3 : f' j = some r := by rw [hg.kept j (by simp [mark])]; exact hf
    rw [h3] at h
    have e : (some r = some x) = (r = x) := by simp
    simp only [e] at h
    omega
  total := by
    have h := tot_upd n f' j i hj
    have h2 := hg.total
    have h3 : f' j = some r := by rw [hg.kept j (by simp [mark])]; exact hf
    rw [h3] at h
    simp at h
    omega
  dead D T hs := by
    obtain ⟨h1, h2⟩ := hg.dead D T hs
    have hT : ¬ T j := fun h => by
      obtain ⟨x, hx, e⟩ := hs.2 j h
      rw [hf] at e
      injection e with e
      exact h1 (e ▸ hx)
    refine ⟨fun h => hT (hs.1 i h j he), fun c hc => ?_⟩
    have : c ≠ j := fun e => hT (e ▸ hc)
    rw [upd, if_neg this]
    exact h2 c hc

/-- The state of the search along a row's list: 'k' of its columns have been tried. -/
structure Along (N : Net) (f : Of) (i k : Nat) (t t' : Nat → Bool) : Prop where
  more : ∀ c, t c = true → t' c = true
  mine : ∀ c, c ∈ (N.E i).take k → N.F c = false → t' c = true
  shut : ∀ c, t' c = true → t c = false → ∃ x, f c = some x ∧ ∀ d, N.edge x d → t' d = true

theorem Along.start (N : Net) (f : Of) (i : Nat) (t : Nat → Bool) : Along N f i 0 t t where
  more _ h := h
  mine c h := by simp at h
  shut c h1 h2 := by rw [h1] at h2; cases h2
theorem take_mem_succ {l : List Nat} {k c : Nat} (hk : k < l.length) (h : c ∈ l.take (k + 1)) : c ∈ l.take k ∨ c = l.getD k 0 := by
  rw [List.take_succ_eq_append_getElem hk, List.mem_append] at h
  rcases h with h | h
  · exact .inl h
  · right
    simp at h
    rw [h]; simp [List.getD, hk]
/-- a column that was tried, or is fixed -/
theorem Along.skip {N : Net} {f : Of} {i k : Nat} {t t' : Nat → Bool} (h : Along N f i k t t') (hk : k < (N.E i).length) (hs : t' ((N.E i).getD k 0) = true ∨ N.F ((N.E i).getD k 0) = true) : Along N f i (k + 1) t t' where
  more := h.more
  mine c hc hF := by
    rcases take_mem_succ hk hc with h1 | rfl
    · exact h.mine c h1 hF
    · rcases hs with h1 | h1
      · exact h1
      · rw [h1] at hF; cases hF
  shut := h.shut
/-- a column whose row leads no further -/
theorem Along.step {N : Net} {f : Of} {i k r : Nat} {t t' t2 : Nat → Bool} (h : Along N f i k t t') (hk : k < (N.E i).length) (hf : f ((N.E i).getD k 0) = some r)
    (hF : Failed N f r (mark t' ((N.E i).getD k 0) true) t2) : Along N f i (k + 1) t t2 := by
  have hmore : ∀ c, t' c = true → t2 c = true := fun c hc => hF.more c (by unfold mark; split <;> simp [hc])
  have hj : t2 ((N.E i).getD k 0) = true := hF.more _ (by simp [mark])
  refine ⟨fun c hc => hmore c (h.more c hc), fun c hc hFc => ?_, fun c h2 h0 => ?_⟩
  · rcases take_mem_succ hk hc with h1 | rfl
    · exact hmore c (h.mine c h1 hFc)
    · exact hj
  · by_cases e : c = (N.E i).getD k 0
    · subst e
      exact ⟨r, hf, hF.mine⟩
    · by_cases ht : t' c = true
      · obtain ⟨x, e1, e2⟩ := h.shut c ht h0
        exact ⟨x, e1, fun d hd => hmore d (e2 d hd)⟩
      · obtain ⟨x, e1, e2⟩ := hF.shut c h2 (by unfold mark; rw [if_neg e]; simpa using ht)
        exact ⟨x, e1, e2⟩
theorem Along.failed {N : Net} {f : Of} {i : Nat} {t t' : Nat → Bool} (h : Along N f i (N.E i).length t t') : Failed N f i t t' where
  more := h.more
  mine c hc := h.mine c (by rw [List.take_length]; exact hc.1) hc.2
  shut := h.shut

/-- Pairs of different rows from 'i' on with different columns. -/
structure Pairs (N : Net) (i m n : Nat) (M : List (Nat × Nat)) : Prop where
  rows : (M.map (·.1)).Nodup
  cols : (M.map (·.2)).Nodup
  real : ∀ p ∈ M, i ≤ p.1 ∧ p.1 < m ∧ p.2 < n ∧ N.edge p.1 p.2

/-- 's' is the size of a greatest pairing of the rows from 'i' on. -/
def Best (N : Net) (i m n s : Nat) : Prop := (∃ M, Pairs N i m n M ∧ M.length = s) ∧ ∀ M, Pairs N i m n M → M.length ≤ s

theorem Best.same {N : Net} {i m n s s' : Nat} (h : Best N i m n s) (h' : Best N i m n s') : s = s' := by
  obtain ⟨⟨M, h1, h2⟩, h3⟩ := h
  obtain ⟨⟨M', h4, h5⟩, h6⟩ := h'
  have := h3 M' h4
  have := h6 M h1
  omega

/-- The rows from 'i0' up to 'i' have been paired as far as can be. -/
structure Held (N : Net) (n i0 i : Nat) (f : Of) : Prop where
  real : ∀ c x, c < n → f c = some x → i0 ≤ x ∧ x < i ∧ N.edge x c
  once : ∀ x, cnt n f x ≤ 1
  done : ∃ D T, Shut N f D T ∧ (∀ c, T c → c < n) ∧ (∀ x, D x → i0 ≤ x ∧ x < i) ∧ ∀ x, i0 ≤ x → x < i → cnt n f x = 0 → D x

theorem Held.start (N : Net) (n i0 : Nat) : Held N n i0 i0 (fun _ => none) where
  real c x _ h := by cases h
  once x := by
    have : ((List.range n).filter (fun c => (none : Option Nat) == some x)) = [] := List.filter_eq_nil_iff.2 (fun a _ => by simp)
    unfold cnt; rw [this]; simp
  done := ⟨fun _ => False, fun _ => False, ⟨fun _ h => h.elim, fun _ h => h.elim⟩, fun _ h => h.elim, fun _ h => h.elim, fun x h1 h2 => by omega⟩

theorem Held.grown {N : Net} {n i0 i : Nat} {f f' : Of} {t : Nat → Bool} (h : Held N n i0 i f) (hi : i0 ≤ i) (hg : Grown N n f f' i t) : Held N n i0 (i + 1) f' := by
  obtain ⟨D, T, hs, hT, hD, hc⟩ := h.done
  obtain ⟨hi', hk⟩ := hg.dead D T hs
  have hzero : ∀ x, ¬ (i0 ≤ x ∧ x < i) → cnt n f x = 0 := fun x hx => by
    apply Classical.byContradiction
    intro h0
    obtain ⟨c, hcn, e⟩ := cnt_pos (show 0 < cnt n f x by omega)
    have := h.real c x hcn e
    exact hx ⟨this.1, this.2.1⟩
  have hreal : ∀ c x, c < n → f' c = some x → i0 ≤ x ∧ x < i + 1 ∧ N.edge x c := fun c x hcn e => by
    have hx : i0 ≤ x ∧ x < i + 1 := by
      apply Classical.byContradiction
      intro hx
      have h0 := hzero x (by omega)
      have h1 := hg.count x
      rw [h0, if_neg (by omega)] at h1
      have : 0 < cnt n f' x := by
        unfold cnt
        apply List.length_pos_of_mem (a := c)
        rw [List.mem_filter]
        exact ⟨List.mem_range.2 hcn, by simp [e]⟩
      omega
    refine ⟨hx.1, hx.2, ?_⟩
    rcases hg.real c x e with e1 | e1
    · exact (h.real c x hcn e1).2.2
    · exact e1
  refine ⟨hreal, fun x => ?_, D, T, ⟨hs.1, fun c hc' => ?_⟩, hT, fun x hx => ⟨(hD x hx).1, by have := (hD x hx).2; omega⟩, fun x h1 h2 h3 => ?_⟩
  · have h1 := hg.count x
    have h2 := h.once x
    by_cases e : i = x
    · subst e
      have := hzero i (by omega)
      rw [if_pos rfl] at h1
      omega
    · rw [if_neg e] at h1
      omega
  · obtain ⟨x, hx, e⟩ := hs.2 c hc'
    exact ⟨x, hx, (hk c hc').trans e⟩
  · have h4 := hg.count x
    by_cases e : i = x
    · rw [if_pos e] at h4; omega
    · rw [if_neg e] at h4
      exact hc x h1 (by omega) (by omega)

theorem Held.failed {N : Net} {n i0 i : Nat} {f : Of} {t' : Nat → Bool} (hE : ∀ x c, N.edge x c → c < n) (h : Held N n i0 i f) (hi : i0 ≤ i) (hF : Failed N f i (fun _ => false) t') : Held N n i0 (i + 1) f := by
  obtain ⟨D, T, hs, hT, hD, hc⟩ := h.done
  have hlt : ∀ c, t' c = true → ∃ x, f c = some x ∧ ∀ d, N.edge x d → t' d = true := fun c h1 => hF.shut c h1 rfl
  refine ⟨fun c x hcn e => ?_, h.once, fun x => D x ∨ x = i ∨ ∃ c, c < n ∧ t' c = true ∧ f c = some x, fun c => c < n ∧ (T c ∨ t' c = true), ⟨?_, ?_⟩, fun c h => h.1, ?_, ?_⟩
  · have := h.real c x hcn e
    exact ⟨this.1, by omega, this.2.2⟩
  · intro x hx c he
    refine ⟨hE x c he, ?_⟩
    rcases hx with hx | rfl | ⟨d, hd, hd1, hd2⟩
    · exact .inl (hs.1 x hx c he)
    · exact .inr (hF.mine c he)
    · obtain ⟨y, e1, e2⟩ := hlt d hd1
      rw [hd2] at e1
      injection e1 with e1
      subst e1
      exact .inr (e2 c he)
  · rintro c ⟨hcn, hc' | hc'⟩
    · obtain ⟨x, hx, e⟩ := hs.2 c hc'
      exact ⟨x, .inl hx, e⟩
    · obtain ⟨x, e1, e2⟩ := hlt c hc'
      exact ⟨x, .inr (.inr ⟨c, hcn, hc', e1⟩), e1⟩
  · rintro x (hx | rfl | ⟨c, hcn, h1, h2⟩)
    · have := hD x hx; omega
    · omega
    · have := h.real c x hcn h2; omega
  · intro x h1 h2 h3
    by_cases e : x = i
    · exact .inr (.inl e)
    · exact .inl (hc x h1 (by omega) h3)

/-- the pairs of a list of columns -/
def pairsOf (f : Of) (l : List Nat) : List (Nat × Nat) := l.filterMap fun c => (f c).map fun x => (x, c)

theorem Held.best {N : Net} {n i0 m : Nat} {f : Of} (h : Held N n i0 m f) : Best N i0 m n (tot n f) := by
  obtain ⟨D, T, hs, hT, hD, hc⟩ := h.done
  refine ⟨⟨pairsOf f (List.range n), ?_, ?_⟩, fun M hM => ?_⟩
  · have hrows : ∀ l : List Nat, l.Nodup → (∀ c ∈ l, c < n) → ((pairsOf f l).map (·.1)).Nodup ∧ ((pairsOf f l).map (·.2)).Nodup ∧ (∀ p ∈ pairsOf f l, p.2 ∈ l ∧ f p.2 = some p.1) := by
      intro l
      induction l with
      | nil => intro _ _; simp [pairsOf]
      | cons a l ih =>
        intro hn hl
        have hn' := List.nodup_cons.1 hn
        obtain ⟨h1, h2, h3⟩ := ih hn'.2 (fun c hc => hl c (by simp [hc]))
        cases e : f a with
        | none =>
          have e2 : pairsOf f (a :: l) = pairsOf f l := by simp [pairsOf, e]
          rw [e2]
          exact ⟨h1, h2, fun p hp => ⟨by simp [(h3 p hp).1], (h3 p hp).2⟩⟩
        | some x =>
          have e2 : pairsOf f (a :: l) = (x, a) :: pairsOf f l := by simp [pairsOf, e]
          rw [e2]
          refine ⟨?_, ?_, ?_⟩
          · rw [List.map_cons, List.nodup_cons]
            refine ⟨fun hx => ?_, h1⟩
            obtain ⟨p, hp, hpx⟩ := List.mem_map.1 hx
            have h4 := h3 p hp
            have hpx' : p.1 = x := hpx
            have h5 : f p.2 = some x := by rw [h4.2, hpx']
            have := cnt_one (h.once x) (hl p.2 (by simp [h4.1])) (hl a (by simp)) h5 e
            exact hn'.1 (this ▸ h4.1)
          · rw [List.map_cons, List.nodup_cons]
            refine ⟨fun hx => ?_, h2⟩
            obtain ⟨p, hp, hpx⟩ := List.mem_map.1 hx
            have hpx' : p.2 = a := hpx
            exact hn'.1 (hpx' ▸ (h3 p hp).1)
          · intro p hp
            rcases List.mem_cons.1 hp with rfl | hp
            · exact ⟨by simp, e⟩
            · exact ⟨by simp [(h3 p hp).1], (h3 p hp).2⟩
    obtain ⟨h1, h2, h3⟩ := hrows (List.range n) List.nodup_range (fun c hc => List.mem_range.1 hc)
    refine ⟨h1, h2, fun p hp => ?_⟩
    obtain ⟨h4, h5⟩ := h3 p hp
    have h6 := List.mem_range.1 h4
    have h7 := h.real p.2 p.1 h6 h5
    exact ⟨h7.1, h7.2.1, h6, h7.2.2⟩
  · unfold pairsOf tot
    generalize List.range n = l
    induction l with
    | nil => rfl
    | cons a l ih => cases e : f a <;> simp [e, ih]
  · classical
    -- each pair leads to a column that has a row
    have hphi : ∀ p ∈ M, ∃ c, c < n ∧ (f c).isSome = true ∧ ((T p.2 ∧ c = p.2) ∨ (¬ T p.2 ∧ ¬ T c ∧ f c = some p.1)) := fun p hp => by
      have hr := hM.real p hp
      by_cases ht : T p.2
      · obtain ⟨x, _, e⟩ := hs.2 p.2 ht
        exact ⟨p.2, hr.2.2.1, by rw [e]; rfl, .inl ⟨ht, rfl⟩⟩
      · have hnd : ¬ D p.1 := fun hd => ht (hs.1 p.1 hd p.2 hr.2.2.2)
        have h0 : 0 < cnt n f p.1 := by
          apply Classical.byContradiction
          intro h0
          exact hnd (hc p.1 hr.1 hr.2.1 (by omega))
        obtain ⟨c, hcn, e⟩ := cnt_pos h0
        refine ⟨c, hcn, by rw [e]; rfl, .inr ⟨ht, fun hTc => ?_, e⟩⟩
        obtain ⟨x, hx, e'⟩ := hs.2 c hTc
        rw [e] at e'
        injection e' with e'
        exact hnd (e' ▸ hx)
    have hall : ∀ L : List (Nat × Nat), (∀ p ∈ L, p ∈ M) → (L.map (·.1)).Nodup → (L.map (·.2)).Nodup →
        ∃ K : List Nat, K.length = L.length ∧ K.Nodup ∧ ∀ c ∈ K, c < n ∧ (f c).isSome = true ∧ ∃ p ∈ L, ((T p.2 ∧ c = p.2) ∨ (¬ T p.2 ∧ ¬ T c ∧ f c = some p.1)) := by
      intro L
      induction L with
      | nil => intro _ _ _; exact ⟨[], rfl, by simp, by simp⟩
      | cons p L ih =>
        intro hL h1 h2
        rw [List.map_cons, List.nodup_cons] at h1 h2
        obtain ⟨K, hK1, hK2, hK3⟩ := ih (fun q hq => hL q (by simp [hq])) h1.2 h2.2
        obtain ⟨c, hcn, hcs, hcp⟩ := hphi p (hL p (by simp))
        refine ⟨c :: K, by simp [hK1], ?_, ?_⟩
        · rw [List.nodup_cons]
          refine ⟨fun hcK => ?_, hK2⟩
          obtain ⟨_, _, q, hq, hcq⟩ := hK3 c hcK
          rcases hcp with ⟨ht, e⟩ | ⟨ht, htc, e⟩
          · rcases hcq with ⟨ht', e'⟩ | ⟨ht', htc', e'⟩
            · exact h2.1 (List.mem_map.2 ⟨q, hq, by show q.2 = p.2; rw [← e', e]⟩)
            · exact htc' (e ▸ ht)
          · rcases hcq with ⟨ht', e'⟩ | ⟨ht', htc', e'⟩
            · exact htc (e' ▸ ht')
            · rw [e] at e'
              injection e' with e'
              exact h1.1 (List.mem_map.2 ⟨q, hq, e'.symm⟩)
        · intro d hd
          rcases List.mem_cons.1 hd with rfl | hd
          · exact ⟨hcn, hcs, p, by simp, hcp⟩
          · obtain ⟨a1, a2, q, hq, a3⟩ := hK3 d hd
            exact ⟨a1, a2, q, by simp [hq], a3⟩
    obtain ⟨K, hK1, hK2, hK3⟩ := hall M (fun p hp => hp) hM.rows hM.cols
    rw [← hK1]
    exact nodup_le K _ hK2 (fun c hc => by
      rw [List.mem_filter]
      exact ⟨List.mem_range.2 (hK3 c hc).1, (hK3 c hc).2.1⟩)

/-! ### Taking pairs one after the other -/

def Net.fix (N : Net) (j : Nat) : Net := ⟨N.E, mark N.F j true⟩

theorem fix_edge {N : Net} {j x c : Nat} : (N.fix j).edge x c ↔ N.edge x c ∧ c ≠ j := by
  unfold Net.edge Net.fix mark
  by_cases e : c = j
  · subst e; simp
  · simp [e]

theorem Pairs.cons {N : Net} {i j m n : Nat} {M : List (Nat × Nat)} (h : Pairs (N.fix j) (i + 1) m n M) (hi : i < m) (hj : j < n) (he : N.edge i j) : Pairs N i m n ((i, j) :: M) where
  rows := by
    rw [List.map_cons, List.nodup_cons]
    refine ⟨fun hx => ?_, h.rows⟩
    obtain ⟨p, hp, e⟩ := List.mem_map.1 hx
    have e' : p.1 = i := e
    have := (h.real p hp).1
    omega
  cols := by
    rw [List.map_cons, List.nodup_cons]
    refine ⟨fun hx => ?_, h.cols⟩
    obtain ⟨p, hp, e⟩ := List.mem_map.1 hx
    exact (fix_edge.1 (h.real p hp).2.2.2).2 e
  real p hp := by
    rcases List.mem_cons.1 hp with rfl | hp
    · exact ⟨Nat.le_refl _, hi, hj, he⟩
    · have := h.real p hp
      exact ⟨by omega, this.2.1, this.2.2.1, (fix_edge.1 this.2.2.2).1⟩

theorem Pairs.later {N : Net} {i m n : Nat} {M : List (Nat × Nat)} (h : Pairs N (i + 1) m n M) : Pairs N i m n M :=
  ⟨h.rows, h.cols, fun p hp => by have := h.real p hp; exact ⟨by omega, this.2⟩⟩

/-- if 'j' can be taken for row 'i', the rest is one smaller -/
theorem Best.take {N : Net} {i j m n s : Nat} (h : Best N i m n s) (hi : i < m) (hj : j < n) (he : N.edge i j) {s' : Nat} (h' : Best (N.fix j) (i + 1) m n s') : s' + 1 ≤ s := by
  obtain ⟨⟨M, h1, h2⟩, _⟩ := h'
  have := h.2 _ (h1.cons hi hj he)
  simp at this
  omega

/-- no column of row 'i' serves: the row is left out -/
theorem Best.leave {N : Net} {i m n s : Nat} (h : Best N i m n s) (hno : ∀ j, j < n → N.edge i j → ¬ Best (N.fix j) (i + 1) m n (s - 1)) : Best N (i + 1) m n s := by
  obtain ⟨⟨M, hM, hl⟩, hb⟩ := h
  refine ⟨⟨M, ?_, hl⟩, fun M' hM' => hb M' hM'.later⟩
  refine ⟨hM.rows, hM.cols, fun p hp => ?_⟩
  have hr := hM.real p hp
  refine ⟨?_, hr.2⟩
  apply Classical.byContradiction
  intro hlt
  have hpi : p.1 = i := by omega
  -- take p out
  obtain ⟨A, B, rfl⟩ := List.append_of_mem hp
  have hsub : (A ++ B).Sublist (A ++ p :: B) := List.Sublist.append (List.Sublist.refl A) (List.sublist_cons_self p B)
  have hperm : (A ++ p :: B).Perm (p :: (A ++ B)) := List.perm_middle
  have hr1 := (hperm.map (·.1)).nodup_iff.1 hM.rows
  have hc1 := (hperm.map (·.2)).nodup_iff.1 hM.cols
  rw [List.map_cons, List.nodup_cons] at hr1 hc1
  have hP : Pairs (N.fix p.2) (i + 1) m n (A ++ B) := by
    refine ⟨hr1.2, hc1.2, fun q hq => ?_⟩
    have hqr := hM.real q (hsub.subset hq)
    have hne : q.1 ≠ p.1 := fun e => hr1.1 (List.mem_map.2 ⟨q, hq, e⟩)
    have hne2 : q.2 ≠ p.2 := fun e => hc1.1 (List.mem_map.2 ⟨q, hq, e⟩)
    exact ⟨by omega, hqr.2.1, hqr.2.2.1, fix_edge.2 ⟨hqr.2.2.2, hne2⟩⟩
  have he : N.edge i p.2 := hpi ▸ hr.2.2.2
  refine hno p.2 hr.2.2.1 he ⟨⟨A ++ B, hP, ?_⟩, fun M' hM' => ?_⟩
  · have : (A ++ p :: B).length = (A ++ B).length + 1 := by simp; omega
    omega
  · have h3 := hb _ (hM'.cons (by omega) hr.2.2.1 he)
    simp at h3
    omega

/-- beyond the last row there is nothing -/
theorem Best.low {N : Net} {i m n s : Nat} (h : Best N i m n s) (hs : 0 < s) : i < m := by
  obtain ⟨⟨M, hM, hl⟩, _⟩ := h
  obtain ⟨p, hp⟩ := List.exists_mem_of_length_pos (show 0 < M.length by omega)
  have := hM.real p hp
  omega

theorem Best.mono {N N' : Net} {i m n s s' : Nat} (h : Best N i m n s) (h' : Best N' i m n s') (he : ∀ x c, N.edge x c → N'.edge x c) : s ≤ s' := by
  obtain ⟨⟨M, hM, rfl⟩, _⟩ := h
  exact h'.2 M ⟨hM.rows, hM.cols, fun p hp => by have := hM.real p hp; exact ⟨this.1, this.2.1, this.2.2.1, he _ _ this.2.2.2⟩⟩

end Mt
end Go.Proofs.Ytdncdlcfgljheaa
