/- Plain: ascending numbers, what two lists of them have in common, the prefix filter. No program in sight. Plain: the ascending list of a list's numbers; the places of texts in a list; numbers by texts. No program in sight. -/
import Derived.Test.YtabemneoobbnaaaGreatDoorBs
import Derived.Lib.SlicesCompact
namespace Go.Proofs.YtabemneoobbnaaaGreatDoor
open Go.RowKit

abbrev Up (a : List Nat) : Prop := a.Pairwise (· < ·)
/-- how many numbers two lists have in common -/
def ovL (a b : List Nat) : Nat := (a.filter fun x => decide (x ∈ b)).length
theorem ov_nil_left (b : List Nat) : ovL [] b = 0 := rfl
theorem ov_nil_right (a : List Nat) : ovL a [] = 0 := by simp [ovL]
theorem ov_lt {x y : Nat} {a b : List Nat} (h : x < y) (hb : Up (y :: b)) : ovL (x :: a) (y :: b) = ovL a (y :: b) := by
  have hx : x ∉ y :: b := by
    intro hm
    rcases List.mem_cons.1 hm with rfl | hm
    · omega
    · have := (List.pairwise_cons.1 hb).1 x hm; omega
  simp only [ovL, List.filter_cons, hx, decide_false]
  rfl
theorem ov_gt {x y : Nat} {a b : List Nat} (h : y < x) (ha : Up (x :: a)) : ovL (x :: a) (y :: b) = ovL (x :: a) b := by
  unfold ovL
  congr 1
  apply List.filter_congr
  intro z hz
  have hne : z ≠ y := by
    rcases List.mem_cons.1 hz with rfl | hz
    · omega
    · have := (List.pairwise_cons.1 ha).1 z hz; omega
  simp [hne]
theorem ov_eq {x : Nat} {a b : List Nat} (ha : Up (x :: a)) : ovL (x :: a) (x :: b) = ovL a b + 1 := by
  have hx : x ∈ x :: b := by simp
  simp only [ovL, List.filter_cons, hx, decide_true, if_true, List.length_cons]
  congr 2
  apply List.filter_congr
  intro z hz
  have hne : z ≠ x := by have := (List.pairwise_cons.1 ha).1 z hz; omega
  simp [hne]
theorem ov_le_left (a b : List Nat) : ovL a b ≤ a.length := List.length_filter_le _ _
theorem up_drop {a : List Nat} (h : Up a) (i : Nat) : Up (a.drop i) := List.Pairwise.sublist (List.drop_sublist _ _) h
theorem up_take {a : List Nat} (h : Up a) (i : Nat) : Up (a.take i) := List.Pairwise.sublist (List.take_sublist _ _) h
theorem drop_at {a : List Nat} {i : Nat} (h : i < a.length) : a.drop i = a.getD i 0 :: a.drop (i + 1) := by
  rw [List.drop_eq_getElem_cons h]; simp [List.getD, h]
/-- one step of the comparison -/
theorem ov_step_lt {a b : List Nat} {i j : Nat} (hi : i < a.length) (hj : j < b.length) (hb : Up b) (h : a.getD i 0 < b.getD j 0) : ovL (a.drop i) (b.drop j) = ovL (a.drop (i + 1)) (b.drop j) := by
  rw [drop_at hi, drop_at hj]; exact ov_lt h (by rw [← drop_at hj]; exact up_drop hb j)
theorem ov_step_gt {a b : List Nat} {i j : Nat} (hi : i < a.length) (hj : j < b.length) (ha : Up a) (h : b.getD j 0 < a.getD i 0) : ovL (a.drop i) (b.drop j) = ovL (a.drop i) (b.drop (j + 1)) := by
  rw [drop_at hi, drop_at hj]; exact ov_gt h (by rw [← drop_at hi]; exact up_drop ha i)
theorem ov_step_eq {a b : List Nat} {i j : Nat} (hi : i < a.length) (hj : j < b.length) (ha : Up a) (h : a.getD i 0 = b.getD j 0) : ovL (a.drop i) (b.drop j) = ovL (a.drop (i + 1)) (b.drop (j + 1)) + 1 := by
  rw [drop_at hi, drop_at hj, ← h]; exact ov_eq (by rw [← drop_at hi]; exact up_drop ha i)
theorem ov_end {a b : List Nat} {i j : Nat} (h : a.length ≤ i ∨ b.length ≤ j) : ovL (a.drop i) (b.drop j) = 0 := by
  rcases h with h | h
  · rw [List.drop_eq_nil_of_le h]; rfl
  · rw [List.drop_eq_nil_of_le h]; exact ov_nil_right _

/-- ascending lists with the same members are one -/
theorem up_unique : ∀ {a b : List Nat}, Up a → Up b → (∀ x, x ∈ a ↔ x ∈ b) → a = b
  | [], [], _, _, _ => rfl
  | [], y :: b, _, _, h => absurd ((h y).2 (by simp)) (by simp)
  | x :: a, [], _, _, h => absurd ((h x).1 (by simp)) (by simp)
  | x :: a, y :: b, ha, hb, h => by
    have h1 := List.pairwise_cons.1 ha
    have h2 := List.pairwise_cons.1 hb
    have hxy : x = y := by
      have e1 : x ∈ y :: b := (h x).1 (by simp)
      have e2 : y ∈ x :: a := (h y).2 (by simp)
      rcases List.mem_cons.1 e1 with e | e1
      · exact e
      · rcases List.mem_cons.1 e2 with e | e2
        · exact e.symm
        · have := h1.1 y e2
          have := h2.1 x e1
          omega
    subst hxy
    congr 1
    refine up_unique h1.2 h2.2 fun z => ⟨fun hz => ?_, fun hz => ?_⟩
    · rcases List.mem_cons.1 ((h z).1 (List.mem_cons_of_mem _ hz)) with e | e
      · have := h1.1 z hz; omega
      · exact e
    · rcases List.mem_cons.1 ((h z).2 (List.mem_cons_of_mem _ hz)) with e | e
      · have := h2.1 z hz; omega
      · exact e
theorem up_nodup {a : List Nat} (h : Up a) : a.Nodup := h.imp fun h => by omega
theorem ov_comm {a b : List Nat} (ha : Up a) (hb : Up b) : ovL a b = ovL b a := by
  unfold ovL
  congr 1
  apply up_unique (List.Pairwise.sublist List.filter_sublist ha) (List.Pairwise.sublist List.filter_sublist hb)
  intro x
  simp [and_comm]

/-- the first of those with a property stands early -/
theorem first_early {p : Nat → Bool} {x : Nat} : ∀ {a : List Nat}, Up a → x ∈ a → p x = true → (∀ y ∈ a, p y = true → x ≤ y) → x ∈ a.take (a.length - (a.filter p).length + 1)
  | [], _, h, _, _ => absurd h (by simp)
  | h :: t, ha, hx, hp, hm => by
    have h1 := List.pairwise_cons.1 ha
    have hl := List.length_filter_le p t
    by_cases hh : p h = true
    · have e : x = h := by
        rcases List.mem_cons.1 hx with e | e
        · exact e
        · have := h1.1 x e
          have := hm h (by simp) hh
          omega
      subst e
      rw [List.take_succ_cons]
      simp
    · have hx' : x ∈ t := by
        rcases List.mem_cons.1 hx with e | e
        · subst e; exact absurd hp hh
        · exact e
      have ih := first_early h1.2 hx' hp fun y hy => hm y (List.mem_cons_of_mem _ hy)
      rw [List.filter_cons, if_neg hh, List.length_cons, show t.length + 1 - (t.filter p).length + 1 = (t.length - (t.filter p).length + 1) + 1 by omega, List.take_succ_cons]
      exact List.mem_cons_of_mem _ ih
theorem mem_take_more {a : List Nat} {x i j : Nat} (h : x ∈ a.take i) (hij : i ≤ j) : x ∈ a.take j := by
  obtain ⟨k, hk, e⟩ := List.getElem_of_mem h
  rw [List.length_take] at hk
  rw [List.getElem_take] at e
  rw [← e]
  exact List.mem_take_iff_getElem.2 ⟨k, by omega, rfl⟩
/-- how long a prefix is -/
def prefL (n need : Nat) : Nat := if need < 1 ∨ n < need then 0 else n - need + 1
theorem ov_pos {a b : List Nat} {x : Nat} (h1 : x ∈ a) (h2 : x ∈ b) : 0 < ovL a b := by
  unfold ovL
  exact List.length_pos_iff.2 (List.ne_nil_of_mem (List.mem_filter.2 ⟨h1, by simpa using h2⟩))
/-- THE PREFIX FILTER: two ascending lists with many common numbers have prefixes that meet -/
theorem prefixes_meet {a b : List Nat} {n : Nat} (ha : Up a) (hb : Up b) (hn : 1 ≤ n) (h : n ≤ ovL a b) : 0 < ovL (a.take (prefL a.length n)) (b.take (prefL b.length n)) := by
  have hla := ov_le_left a b
  have hlb := ov_le_left b a
  rw [← ov_comm ha hb] at hlb
  have hpa : prefL a.length n = a.length - n + 1 := by unfold prefL; rw [if_neg (by omega)]
  have hpb : prefL b.length n = b.length - n + 1 := by unfold prefL; rw [if_neg (by omega)]
  rw [hpa, hpb]
  have hfl : (a.filter fun x => decide (x ∈ b)).length = ovL a b := rfl
  have hgl : (b.filter fun x => decide (x ∈ a)).length = ovL a b := by rw [ov_comm ha hb]; rfl
  have hup : Up (a.filter fun x => decide (x ∈ b)) := List.Pairwise.sublist List.filter_sublist ha
  cases hc : a.filter fun x => decide (x ∈ b) with
  | nil => rw [hc] at hfl; simp at hfl; omega
  | cons x c =>
    have hx : x ∈ a.filter fun x => decide (x ∈ b) := by rw [hc]; simp
    have hx2 := List.mem_filter.1 hx
    have hxb : x ∈ b := by simpa using hx2.2
    rw [hc] at hup
    have hmin : ∀ y, y ∈ a → y ∈ b → x ≤ y := fun y h1 h2 => by
      have : y ∈ a.filter fun x => decide (x ∈ b) := List.mem_filter.2 ⟨h1, by simpa using h2⟩
      rw [hc] at this
      rcases List.mem_cons.1 this with e | e
      · omega
      · have := (List.pairwise_cons.1 hup).1 y e; omega
    have e1 := first_early (p := fun x => decide (x ∈ b)) ha hx2.1 (by simpa using hxb) (fun y hy hp => hmin y hy (by simpa using hp))
    have e2 := first_early (p := fun x => decide (x ∈ a)) hb hxb (by simpa using hx2.1) (fun y hy hp => hmin y (by simpa using hp) hy)
    rw [hfl] at e1
    rw [hgl] at e2
    exact ov_pos (mem_take_more e1 (by omega)) (mem_take_more e2 (by omega))

end Go.Proofs.YtabemneoobbnaaaGreatDoor

namespace Go.Proofs.YtabemneoobbnaaaGreatDoor
open Go.RowKit Go.Lib

/-- the numbers of a list, ascending, each once -/
def upL (R : List Nat) : List Nat := (List.range (R.foldr max 0 + 1)).filter fun x => decide (x ∈ R)
theorem le_foldr_max {R : List Nat} {x : Nat} (h : x ∈ R) : x ≤ R.foldr max 0 := by
  induction R with
  | nil => simp at h
  | cons y R ih =>
    rw [List.foldr_cons]
    rcases List.mem_cons.1 h with rfl | h
    · omega
    · have := ih h; omega
theorem upL_up (R : List Nat) : Up (upL R) := List.Pairwise.sublist List.filter_sublist List.pairwise_lt_range
theorem upL_mem {R : List Nat} {x : Nat} : x ∈ upL R ↔ x ∈ R := by
  unfold upL
  rw [List.mem_filter, List.mem_range]
  constructor
  · intro h; simpa using h.2
  · intro h; exact ⟨by have := le_foldr_max h; omega, by simpa using h⟩
theorem upL_eq {R L : List Nat} (h : Up L) (hm : ∀ x, x ∈ L ↔ x ∈ R) : L = upL R := up_unique h (upL_up R) fun x => (hm x).trans upL_mem.symm
theorem compactUpTo_specZ (d : Array Int) (hs : ∀ i j, i < j → j < d.size → d[i]! ≤ d[j]!) : ∀ m, m ≤ d.size →
    (compactUpTo d m).Pairwise (· < ·) ∧ (∀ y ∈ compactUpTo d m, ∃ i, i < m ∧ y = d[i]!) ∧ (∀ i, i < m → d[i]! ∈ compactUpTo d m) := by
  intro m
  induction m with
  | zero => intro _; exact ⟨by simp [compactUpTo], by simp [compactUpTo], fun i h => by omega⟩
  | succ m ih =>
    intro hm
    obtain ⟨h1, h2, h3⟩ := ih (by omega)
    rw [compactUpTo_succ]
    by_cases hk : keeps d m = true
    · rw [if_pos hk]
      refine ⟨?_, ?_, ?_⟩
      · rw [List.pairwise_append]
        refine ⟨h1, List.pairwise_singleton _ _, fun y hy z hz => ?_⟩
        rw [List.mem_singleton] at hz
        subst hz
        obtain ⟨i, hi, rfl⟩ := h2 y hy
        have hne : d[m]! ≠ d[m - 1]! := by
          unfold keeps at hk
          rcases of_decide_eq_true hk with h | h
          · omega
          · exact h
        have hle : d[m - 1]! ≤ d[m]! := hs _ _ (by omega) (by omega)
        rcases Nat.lt_or_ge i (m - 1) with h | h
        · have := hs i (m - 1) h (by omega); omega
        · obtain rfl : i = m - 1 := by omega
          omega
      · intro y hy
        rcases List.mem_append.1 hy with hy | hy
        · obtain ⟨i, hi, e⟩ := h2 y hy
          exact ⟨i, by omega, e⟩
        · exact ⟨m, by omega, by simpa using hy⟩
      · intro i hi
        rw [List.mem_append]
        rcases Nat.lt_or_ge i m with h | h
        · exact .inl (h3 i h)
        · obtain rfl : i = m := by omega
          exact .inr (by simp)
    · rw [if_neg hk, List.append_nil]
      refine ⟨h1, fun y hy => ?_, fun i hi => ?_⟩
      · obtain ⟨i, hi, e⟩ := h2 y hy
        exact ⟨i, by omega, e⟩
      · rcases Nat.lt_or_ge i m with h | h
        · exact h3 i h
        · obtain rfl : i = m := by omega
          have hn : ¬ (i = 0 ∨ d[i]! ≠ d[i - 1]!) := fun e => hk (by unfold keeps; exact decide_eq_true e)
          have he : d[i]! = d[i - 1]! := Classical.byContradiction fun e => hn (.inr e)
          rw [he]
          exact h3 (i - 1) (by have : i ≠ 0 := fun e => hn (.inl e); omega)
/-- the numbers sorted -/
def sortZ (R : List Nat) : List Int := (R.map fun x : Nat => (x : Int)).mergeSort fun x y => decide (x ≤ y)
theorem sortZ_len (R : List Nat) : (sortZ R).length = R.length := by simp [sortZ]
theorem sortZ_up (R : List Nat) : (sortZ R).Pairwise (· ≤ ·) := by
  have h := List.pairwise_mergeSort (le := fun x y : Int => decide (x ≤ y)) (by intro a b c; simp; omega) (by intro a b; simp; omega) (R.map fun x : Nat => (x : Int))
  exact h.imp fun h => by simpa using h
theorem upL_compact (R : List Nat) : compact (sortZ R) = (upL R).map fun x : Nat => (x : Int) := by
  have hs : ∀ i j, i < j → j < (sortZ R).toArray.size → (sortZ R).toArray[i]! ≤ (sortZ R).toArray[j]! := by
    intro i j hij hj
    have hj' : j < (sortZ R).length := by simpa using hj
    have := List.pairwise_iff_getElem.1 (sortZ_up R) i j (by omega) hj' hij
    simpa [getElem!_pos, hj', show i < (sortZ R).length by omega] using this
  obtain ⟨h1, h2, h3⟩ := compactUpTo_specZ (sortZ R).toArray hs (sortZ R).length (by simp)
  have hup : ((upL R).map fun x : Nat => (x : Int)).Pairwise (· < ·) := List.pairwise_map.2 ((upL_up R).imp fun h => by omega)
  have hmem : ∀ y : Int, y ∈ compact (sortZ R) ↔ y ∈ (upL R).map fun x : Nat => (x : Int) := by
    intro y
    have e1 : y ∈ compact (sortZ R) ↔ y ∈ sortZ R := by
      constructor
      · intro h
        obtain ⟨i, hi, rfl⟩ := h2 y h
        simp [getElem!_pos, hi]
      · intro h
        obtain ⟨i, hi, rfl⟩ := List.getElem_of_mem h
        have := h3 i hi
        show _ ∈ compactUpTo (sortZ R).toArray (sortZ R).length
        simpa [getElem!_pos, hi] using this
    have e2 : y ∈ sortZ R ↔ y ∈ R.map fun x : Nat => (x : Int) := (List.mergeSort_perm _ _).mem_iff
    rw [e1, e2, List.mem_map, List.mem_map]
    constructor
    · rintro ⟨x, hx, rfl⟩; exact ⟨x, upL_mem.2 hx, rfl⟩
    · rintro ⟨x, hx, rfl⟩; exact ⟨x, upL_mem.1 hx, rfl⟩
  have hp : (compact (sortZ R)).Perm ((upL R).map fun x : Nat => (x : Int)) := (List.perm_ext_iff_of_nodup (h1.imp fun h => by omega) (hup.imp fun h => by omega)).2 hmem
  exact hp.eq_of_pairwise (fun a b _ _ h1 h2 => by omega) h1 hup

theorem upL_len (R : List Nat) : (upL R).length ≤ R.length := by
  have h : (compact (sortZ R)).length ≤ (sortZ R).length := by
    unfold compact compactUpTo
    rw [List.length_map]
    exact Nat.le_trans (List.length_filter_le _ _) (by simp)
  rw [upL_compact, List.length_map, sortZ_len] at h
  exact h

/-- the first place of a text -/
def idxF (O : List ByteArray) (s : ByteArray) : Option Nat := (List.range O.length).find? fun i => decide (O.getD i ⟨#[]⟩ = s)
theorem idxF_some {O : List ByteArray} {s : ByteArray} {i : Nat} (h : idxF O s = some i) : i < O.length ∧ O.getD i ⟨#[]⟩ = s := by
  unfold idxF at h
  have h1 := List.mem_of_find?_eq_some h
  have h2 := List.find?_some h
  exact ⟨List.mem_range.1 h1, by simpa using h2⟩
theorem idxF_none {O : List ByteArray} {s : ByteArray} (h : idxF O s = none) : s ∉ O := by
  intro hm
  obtain ⟨i, hi, rfl⟩ := List.getElem_of_mem hm
  unfold idxF at h
  have := List.find?_eq_none.1 h i (List.mem_range.2 hi)
  simp [List.getD, hi] at this
theorem idxF_nodup {O : List ByteArray} (hn : O.Nodup) {i : Nat} (hi : i < O.length) : idxF O (O.getD i ⟨#[]⟩) = some i := by
  cases h : idxF O (O.getD i ⟨#[]⟩) with
  | none => exact absurd (by simp [List.getD, hi]) (idxF_none h)
  | some j =>
    obtain ⟨h1, h2⟩ := idxF_some h
    congr 1
    have e : O[j] = O[i] := by simpa [List.getD, hi, h1] using h2
    exact (List.getElem_inj hn).1 e
/-- the ranks of texts -/
def rankL (O X : List ByteArray) : List Nat := upL (X.filterMap (idxF O))

end Go.Proofs.YtabemneoobbnaaaGreatDoor
