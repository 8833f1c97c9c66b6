/- Plain: operations on tables (chapter 38), as the reference does them. No program in sight. Plain: what operations do one after another (chapter 38): filters can be exchanged, sorting is done once for all. No program in sight. Plain: what explain finds (chapter 38). No program in sight. -/
import Derived.Test.YtfmlpaplnkohpaaGreatDoorLnRtac
import Derived.Test.YtfmlpaplnkohpaaGreatDoorLnRtaa
set_option linter.unusedVariables false
set_option linter.unusedSimpArgs false
namespace Go.Proofs.YtfmlpaplnkohpaaGreatDoor
open Go.RowKit

/-- an operation -/
structure Po where
  kind : Int
  col : Int
  text : ByteArray
  cols : List Int
def Po.val (o : Po) (v : Value) : Value := .agg #[.int .i64 o.kind, .int .i64 o.col, .string o.text, v]

/-- how cells compare -/
def cmpC (a b : Cl) : Int := if a.null = true ∧ b.null = true then 0 else if a.null = true then -1 else if b.null = true then 1 else if sl a.text b.text = true then -1 else if a.text = b.text then 0 else 1

def thereL (n : Nat) (k : Int) : Bool := decide (0 ≤ k) && decide (k < n)
def canL (n : Nat) (o : Po) : Bool :=
  if o.kind = 1 then thereL n o.col && decide (o.cols.length = 0) && decide (o.text.size ≤ 1024)
  else if o.kind = 2 ∨ o.kind = 5 then thereL n o.col && decide (o.cols.length = 0) && decide (o.text.size = 0)
  else if o.kind = 3 then o.cols.all (thereL n) && (decide (o.col = 0) && decide (o.text.size = 0) && decide (o.cols.length ≤ 64))
  else decide (o.kind = 4) && decide (o.col = 0) && decide (o.text.size = 0) && decide (o.cols.length = 0)

/-- equal rows -/
def eqRow (xs : List Co) (x y : Nat) : Bool := xs.all fun c => decide (c.cells.getD x Cl.z = c.cells.getD y Cl.z)
/-- is row r kept, where out are the rows so far -/
def keepL (xs : List Co) (o : Po) (out : List Nat) (r : Nat) : Bool :=
  if o.kind = 1 then !(cellAt xs o.col.toNat r).null && decide ((cellAt xs o.col.toNat r).text = o.text)
  else if o.kind = 2 then !(cellAt xs o.col.toNat r).null
  else if o.kind = 4 then out.all fun x => !eqRow xs x r
  else true
/-- where row r goes, from place k down -/
def sortAt (f : Nat → Bool) (out : List Nat) : Nat → Nat
  | 0 => 0
  | k + 1 => if f (out.getD k 0) = true then sortAt f out k else k + 1
def gtC (xs : List Co) (c r x : Nat) : Bool := decide (0 < cmpC (cellAt xs c x) (cellAt xs c r))
def atL (xs : List Co) (o : Po) (out : List Nat) (r : Nat) : Nat := if o.kind = 5 then sortAt (gtC xs o.col.toNat r) out out.length else out.length
def stepL (xs : List Co) (o : Po) (out : List Nat) (r : Nat) : List Nat := if keepL xs o out r = true then out.take (atL xs o out r) ++ r :: out.drop (atL xs o out r) else out
def rowsL (xs : List Co) (o : Po) (n : Nat) : List Nat := (List.range n).foldl (stepL xs o) []
def projL (xs : List Co) (ks : List Int) : List Co := ks.map fun k => xs.getD k.toNat Co.z
def pickC (c : Co) (rs : List Nat) : Co := ⟨c.name, rs.map fun r => c.cells.getD r Cl.z⟩
def selL (xs : List Co) (rs : List Nat) : List Co := xs.map fun c => pickC c rs
def doL (xs : List Co) (o : Po) : List Co := if o.kind = 3 then projL xs o.cols else selL xs (rowsL xs o (rowsC xs))

theorem sortAt_le (f : Nat → Bool) (out : List Nat) : ∀ k, sortAt f out k ≤ k
  | 0 => Nat.le_refl _
  | k + 1 => by
    unfold sortAt
    split
    · exact Nat.le_succ_of_le (sortAt_le f out k)
    · exact Nat.le_refl _
theorem atL_le (xs : List Co) (o : Po) (out : List Nat) (r : Nat) : atL xs o out r ≤ out.length := by
  unfold atL
  split
  · exact sortAt_le _ _ _
  · exact Nat.le_refl _
theorem stepL_len (xs : List Co) (o : Po) (out : List Nat) (r : Nat) : (stepL xs o out r).length ≤ out.length + 1 := by
  unfold stepL
  split
  · have := atL_le xs o out r
    simp
    omega
  · omega
theorem stepL_mem {xs : List Co} {o : Po} {out : List Nat} {r x : Nat} (h : x ∈ stepL xs o out r) : x ∈ out ∨ x = r := by
  unfold stepL at h
  split at h
  · rcases List.mem_append.1 h with h | h
    · exact .inl (List.mem_of_mem_take h)
    · rcases List.mem_cons.1 h with h | h
      · exact .inr h
      · exact .inl (List.mem_of_mem_drop h)
  · exact .inl h
theorem rowsL_succ (xs : List Co) (o : Po) (n : Nat) : rowsL xs o (n + 1) = stepL xs o (rowsL xs o n) n := by simp [rowsL, List.range_succ]
theorem rowsL_ok (xs : List Co) (o : Po) : ∀ n, (rowsL xs o n).length ≤ n ∧ ∀ x ∈ rowsL xs o n, x < n
  | 0 => ⟨Nat.le_refl _, fun x h => by cases h⟩
  | n + 1 => by
    obtain ⟨h1, h2⟩ := rowsL_ok xs o n
    rw [rowsL_succ]
    refine ⟨Nat.le_trans (stepL_len _ _ _ _) (by omega), fun x hx => ?_⟩
    rcases stepL_mem hx with h | rfl
    · have := h2 x h; omega
    · omega

/-- what tables have in common that are made of a table -/
def ColsV (xs : List Co) (n : Nat) : Prop := ∀ x ∈ xs, TextOk 1024 x.name ∧ x.cells.length = n ∧ ∀ c ∈ x.cells, CellOk c
theorem TabV.cv {t : Ta} (h : TabV t) : ∃ n, n ≤ 4096 ∧ ColsV t.cols n := h.2.2.2.2
theorem sel_ok {xs : List Co} {n : Nat} (h : ColsV xs n) {rs : List Nat} (hr : ∀ r ∈ rs, r < n) : ColsV (selL xs rs) rs.length := by
  intro x hx
  obtain ⟨c, hc, rfl⟩ := List.mem_map.1 hx
  obtain ⟨h1, h2, h3⟩ := h c hc
  refine ⟨h1, by simp [pickC], fun d hd => ?_⟩
  obtain ⟨r, hrr, rfl⟩ := List.mem_map.1 hd
  have : r < c.cells.length := by rw [h2]; exact hr r hrr
  exact h3 _ (by rw [List.getD, List.getElem?_eq_getElem this]; exact List.getElem_mem this)
theorem proj_ok {xs : List Co} {n : Nat} (h : ColsV xs n) {ks : List Int} (hk : ks.all (thereL xs.length) = true) : ColsV (projL xs ks) n := by
  intro x hx
  obtain ⟨k, hkk, rfl⟩ := List.mem_map.1 hx
  have h1 := List.all_eq_true.1 hk k hkk
  unfold thereL at h1
  simp at h1
  have : k.toNat < xs.length := by omega
  exact h _ (by rw [List.getD, List.getElem?_eq_getElem this]; exact List.getElem_mem this)
theorem rowsC_of {xs : List Co} {n : Nat} (h : ColsV xs n) (hp : 0 < xs.length) : rowsC xs = n := by
  unfold rowsC
  refine (h _ ?_).2.1
  rw [List.getD, List.getElem?_eq_getElem hp]
  exact List.getElem_mem hp
theorem do_valid {t : Ta} (h : TabV t) {o : Po} (hc : canL t.cols.length o = true) : TabV ⟨t.id, t.name, doL t.cols o⟩ := by
  obtain ⟨h0, h1, h2, h3, n, hn, hx⟩ := h
  unfold doL
  by_cases h3' : o.kind = 3
  · have hc2 : o.cols.all (thereL t.cols.length) = true ∧ o.cols.length ≤ 64 := by
      unfold canL at hc
      rw [if_neg (by omega), if_neg (by omega), if_pos h3'] at hc
      simp only [Bool.and_eq_true, decide_eq_true_eq] at hc
      exact ⟨hc.1, hc.2.2⟩
    rw [if_pos h3']
    refine ⟨h0, h1, h2, by simpa [projL] using hc2.2, n, hn, proj_ok hx hc2.1⟩
  · rw [if_neg h3']
    obtain ⟨r1, r2⟩ := rowsL_ok t.cols o (rowsC t.cols)
    rcases Nat.eq_zero_or_pos t.cols.length with hz | hp
    · have e : t.cols = [] := List.eq_nil_of_length_eq_zero hz
      refine ⟨h0, h1, h2, by simp [selL, e], 0, by omega, fun x hx => by simp [selL, e] at hx⟩
    · have hrc := rowsC_of hx hp
      rw [hrc] at r1 r2 ⊢
      exact ⟨h0, h1, h2, by simpa [selL] using h3, _, by omega, sel_ok hx r2⟩

end Go.Proofs.YtfmlpaplnkohpaaGreatDoor

namespace Go.Proofs.YtfmlpaplnkohpaaGreatDoor
open Go.RowKit

theorem selL_len (xs : List Co) (rs : List Nat) : (selL xs rs).length = xs.length := by simp [selL]
theorem sel_getD (xs : List Co) (rs : List Nat) {k : Nat} (hk : k < xs.length) : (selL xs rs).getD k Co.z = pickC (xs.getD k Co.z) rs := by simp [selL, List.getD, hk]
theorem cellAt_sel {xs : List Co} {rs : List Nat} {k i : Nat} (hk : k < xs.length) (hi : i < rs.length) : cellAt (selL xs rs) k i = cellAt xs k (rs.getD i 0) := by
  unfold cellAt
  rw [sel_getD xs rs hk]
  simp [pickC, List.getD, hi]
theorem sel_sel (xs : List Co) (rs ss : List Nat) (h : ∀ s ∈ ss, s < rs.length) : selL (selL xs rs) ss = selL xs (ss.map fun s => rs.getD s 0) := by
  unfold selL
  rw [List.map_map]
  refine List.map_congr_left fun c _ => ?_
  simp only [Function.comp, pickC, List.map_map, Co.mk.injEq, true_and]
  refine List.map_congr_left fun s hs => ?_
  simp [List.getD, h s hs]
theorem rowsC_sel {xs : List Co} {rs : List Nat} (h : 0 < xs.length) : rowsC (selL xs rs) = rs.length := by
  unfold rowsC
  rw [sel_getD xs rs h]
  simp [pickC]
theorem sel_range {xs : List Co} {n : Nat} (h : ∀ x ∈ xs, x.cells.length = n) : selL xs (List.range n) = xs := by
  unfold selL
  refine (List.map_congr_left (g := id) fun c hc => ?_).trans (by simp)
  obtain ⟨nm, cs⟩ := c
  have hl : cs.length = n := h _ hc
  subst hl
  simp only [pickC, id, Co.mk.injEq, true_and]
  refine List.ext_getElem (by simp) fun i h1 h2 => ?_
  simp [List.getD, h2]
theorem sel_cols {xs : List Co} {rs : List Nat} : ∀ x ∈ selL xs rs, x.cells.length = rs.length := by
  intro x hx
  obtain ⟨c, -, rfl⟩ := List.mem_map.1 hx
  simp [pickC]

/-! ### filters -/
def keepF (xs : List Co) (o : Po) (r : Nat) : Bool := if o.kind = 1 then !(cellAt xs o.col.toNat r).null && decide ((cellAt xs o.col.toNat r).text = o.text) else !(cellAt xs o.col.toNat r).null
theorem rowsL_F {xs : List Co} {o : Po} (hk : o.kind = 1 ∨ o.kind = 2) : ∀ n, rowsL xs o n = (List.range n).filter (keepF xs o)
  | 0 => rfl
  | n + 1 => by
    have h1 : keepL xs o (rowsL xs o n) n = keepF xs o n := by
      unfold keepL keepF
      rcases hk with h | h <;> simp [h]
    have h2 : atL xs o (rowsL xs o n) n = (rowsL xs o n).length := by
      unfold atL
      rw [if_neg (by omega)]
    rw [rowsL_succ, stepL, h1, h2, List.take_length, List.drop_length, rowsL_F hk n, List.range_succ, List.filter_append]
    by_cases h : keepF xs o n = true
    · rw [if_pos h]; simp [h]
    · rw [if_neg h]; simp [h]
theorem keepF_sel {xs : List Co} {rs : List Nat} {o : Po} {i : Nat} (hc : o.col.toNat < xs.length) (hi : i < rs.length) : keepF (selL xs rs) o i = keepF xs o (rs.getD i 0) := by
  unfold keepF
  rw [cellAt_sel hc hi]
theorem map_range_getD (l : List Nat) : (List.range l.length).map (fun i => l.getD i 0) = l := by
  refine List.ext_getElem (by simp) fun i h1 h2 => ?_
  simp [List.getD, h2]
theorem filter_get (l : List Nat) (p q : Nat → Bool) (h : ∀ i, i < l.length → p i = q (l.getD i 0)) : ((List.range l.length).filter p).map (fun i => l.getD i 0) = l.filter q := by
  have e : (List.range l.length).filter p = (List.range l.length).filter (q ∘ fun i => l.getD i 0) := List.filter_congr fun i hi => h i (List.mem_range.1 hi)
  rw [e]
  conv => rhs; rw [← map_range_getD l, List.filter_map]
theorem doL_F {xs : List Co} {o : Po} (hk : o.kind = 1 ∨ o.kind = 2) : doL xs o = selL xs ((List.range (rowsC xs)).filter (keepF xs o)) := by
  unfold doL
  rw [if_neg (by omega), rowsL_F hk]
theorem doL_FF {xs : List Co} {o p : Po} (hk : o.kind = 1 ∨ o.kind = 2) (hp : p.kind = 1 ∨ p.kind = 2) (hc : p.col.toNat < xs.length) :
    doL (doL xs o) p = selL xs (((List.range (rowsC xs)).filter (keepF xs o)).filter (keepF xs p)) := by
  rw [doL_F hk, doL_F hp, rowsC_sel (by omega), sel_sel _ _ _ (fun s hs => List.mem_range.1 (List.mem_filter.1 hs).1)]
  rw [filter_get _ _ (keepF xs p) fun i hi => keepF_sel hc hi]
/-- selections can be exchanged -/
theorem doL_swap {xs : List Co} {o p : Po} (hk : o.kind = 1 ∨ o.kind = 2) (hp : p.kind = 1 ∨ p.kind = 2) (h1 : o.col.toNat < xs.length) (h2 : p.col.toNat < xs.length) : doL (doL xs o) p = doL (doL xs p) o := by
  rw [doL_FF hk hp h2, doL_FF hp hk h1, List.filter_filter, List.filter_filter]
  congr 1
  exact List.filter_congr fun i _ => Bool.and_comm _ _

/-! ### how cells compare -/
theorem cmpC_total (a b : Cl) : ¬ 0 < cmpC a b ∨ ¬ 0 < cmpC b a := by
  unfold cmpC
  rcases ha : a.null <;> rcases hb : b.null <;> simp
  rcases sl_total a.text b.text with h | h | h
  · left; simp [h]
  · left; simp [h, sl_irrefl]
  · right; simp [h]
theorem cmpC_le (a b : Cl) : ¬ 0 < cmpC a b ↔ a.null = true ∨ (b.null = false ∧ sl b.text a.text = false) := by
  unfold cmpC
  rcases ha : a.null <;> rcases hb : b.null <;> simp
  rcases sl_total a.text b.text with h | h | h
  · have h2 : sl b.text a.text = false := by
      rcases h3 : sl b.text a.text
      · rfl
      · have := sl_trans h h3; rw [sl_irrefl] at this; cases this
    simp [h, h2]
  · rw [h]; simp [sl_irrefl]
  · have h2 : sl a.text b.text = false := by
      rcases h3 : sl a.text b.text
      · rfl
      · have := sl_trans h h3; rw [sl_irrefl] at this; cases this
    have h3 : a.text ≠ b.text := fun e => by rw [e, sl_irrefl] at h; cases h
    simp [h, h2, h3]
theorem cmpC_trans {a b c : Cl} (h1 : ¬ 0 < cmpC a b) (h2 : ¬ 0 < cmpC b c) : ¬ 0 < cmpC a c := by
  rw [cmpC_le] at *
  rcases h1 with h1 | ⟨h1, h3⟩
  · exact .inl h1
  · rcases h2 with h2 | ⟨h2, h4⟩
    · rw [h1] at h2; cases h2
    · refine .inr ⟨h2, ?_⟩
      rcases h5 : sl c.text a.text
      · rfl
      · rcases sl_total a.text b.text with h6 | h6 | h6
        · have := sl_trans h5 h6; rw [h4] at this; cases this
        · rw [h6, h4] at h5; cases h5
        · rw [h3] at h6; cases h6

/-! ### sorting -/
/-- row a may stand ahead of row b -/
def leR (xs : List Co) (c a b : Nat) : Prop := ¬ 0 < cmpC (cellAt xs c a) (cellAt xs c b)
theorem sortAt_spec (f : Nat → Bool) (out : List Nat) : ∀ k, k ≤ out.length → (∀ j, sortAt f out k ≤ j → j < k → f (out.getD j 0) = true) ∧ (0 < sortAt f out k → f (out.getD (sortAt f out k - 1) 0) = false)
  | 0, _ => ⟨fun j h1 h2 => by omega, fun h => by simp [sortAt] at h⟩
  | k + 1, hk => by
    obtain ⟨h1, h2⟩ := sortAt_spec f out k (by omega)
    unfold sortAt
    by_cases h : f (out.getD k 0) = true
    · rw [if_pos h]
      refine ⟨fun j h3 h4 => ?_, h2⟩
      by_cases hj : j = k
      · rw [hj]; exact h
      · exact h1 j h3 (by omega)
    · rw [if_neg h]
      exact ⟨fun j h3 h4 => by omega, fun _ => by simpa using h⟩
theorem step_perm (xs : List Co) (o : Po) (out : List Nat) (r : Nat) (h : keepL xs o out r = true) : (stepL xs o out r).Perm (r :: out) := by
  unfold stepL
  rw [if_pos h]
  refine (List.perm_middle).trans ?_
  rw [List.take_append_drop]
theorem rowsL_perm {xs : List Co} {o : Po} (hk : o.kind = 5) : ∀ n, (rowsL xs o n).Perm (List.range n)
  | 0 => List.Perm.refl _
  | n + 1 => by
    rw [rowsL_succ, List.range_succ]
    refine (step_perm xs o _ n (by simp [keepL, hk])).trans ?_
    refine (List.Perm.cons n (rowsL_perm hk n)).trans ?_
    exact (List.perm_append_singleton n (List.range n)).symm
theorem rowsL_sorted {xs : List Co} {o : Po} (hk : o.kind = 5) : ∀ n, (rowsL xs o n).Pairwise (leR xs o.col.toNat)
  | 0 => List.Pairwise.nil
  | n + 1 => by
    have ih := rowsL_sorted (xs := xs) hk n
    rw [rowsL_succ]
    generalize rowsL xs o n = out at *
    have hkeep : keepL xs o out n = true := by simp [keepL, hk]
    unfold stepL
    rw [if_pos hkeep]
    have ha : atL xs o out n = sortAt (gtC xs o.col.toNat n) out out.length := by simp [atL, hk]
    obtain ⟨s1, s2⟩ := sortAt_spec (gtC xs o.col.toNat n) out out.length (Nat.le_refl _)
    have hle := sortAt_le (gtC xs o.col.toNat n) out out.length
    rw [ha]
    generalize sortAt (gtC xs o.col.toNat n) out out.length = k at *
    have hb : ∀ x ∈ out.take k, leR xs o.col.toNat x n := by
      intro x hx
      obtain ⟨i, hi, rfl⟩ := List.getElem_of_mem hx
      rw [List.length_take] at hi
      have h2 := s2 (by omega)
      have hlast : leR xs o.col.toNat (out.getD (k - 1) 0) n := by
        unfold leR; unfold gtC at h2; simpa using h2
      by_cases e : i = k - 1
      · subst e
        have e2 : (out.take k)[k - 1] = out.getD (k - 1) 0 := by simp [List.getD, show k - 1 < out.length by omega]
        rw [e2]; exact hlast
      · have h3 := List.pairwise_iff_getElem.1 ih i (k - 1) (by omega) (by omega) (by omega)
        have e2 : (out.take k)[i] = out[i]'(by omega) := by simp
        have e3 : out.getD (k - 1) 0 = out[k - 1]'(by omega) := by simp [List.getD, show k - 1 < out.length by omega]
        rw [e3] at hlast
        rw [e2]
        exact cmpC_trans h3 hlast
    have hd : ∀ x ∈ out.drop k, leR xs o.col.toNat n x := by
      intro x hx
      obtain ⟨i, hi, rfl⟩ := List.getElem_of_mem hx
      rw [List.length_drop] at hi
      have h1 := s1 (k + i) (by omega) (by omega)
      have e3 : out.getD (k + i) 0 = out[k + i]'(by omega) := by simp [List.getD, show k + i < out.length by omega]
      rw [e3] at h1
      have e2 : (out.drop k)[i] = out[k + i]'(by omega) := by simp
      rw [e2]
      unfold gtC at h1
      have h2 : 0 < cmpC (cellAt xs o.col.toNat (out[k + i]'(by omega))) (cellAt xs o.col.toNat n) := by simpa using h1
      rcases cmpC_total (cellAt xs o.col.toNat (out[k + i]'(by omega))) (cellAt xs o.col.toNat n) with h | h
      · exact absurd h2 h
      · exact h
    have hsplit := ih
    rw [← List.take_append_drop k out] at hsplit
    rw [List.pairwise_append] at hsplit
    refine List.pairwise_append.2 ⟨hsplit.1, List.pairwise_cons.2 ⟨hd, hsplit.2.1⟩, fun a h1 b h2 => ?_⟩
    rcases List.mem_cons.1 h2 with rfl | h2
    · exact hb a h1
    · exact hsplit.2.2 a h1 b h2

/-! ### distinct rows -/
theorem eqRow_comm (xs : List Co) (a b : Nat) : eqRow xs a b = eqRow xs b a := by
  unfold eqRow
  congr 1
  funext c
  exact decide_eq_decide.2 eq_comm
theorem eqRow_sel {xs : List Co} {rs : List Nat} {i j : Nat} (hi : i < rs.length) (hj : j < rs.length) : eqRow (selL xs rs) i j = eqRow xs (rs.getD i 0) (rs.getD j 0) := by
  unfold eqRow selL
  rw [List.all_map]
  congr 1
  funext c
  simp [pickC, List.getD, hi, hj]
theorem rowsL_D {xs : List Co} {o : Po} (hk : o.kind = 4) : ∀ n, (rowsL xs o n).Pairwise (fun a b => eqRow xs a b = false)
  | 0 => List.Pairwise.nil
  | n + 1 => by
    have ih := rowsL_D (xs := xs) hk n
    rw [rowsL_succ]
    generalize rowsL xs o n = out at *
    unfold stepL
    by_cases h : keepL xs o out n = true
    · have ha : atL xs o out n = out.length := by simp [atL, hk]
      rw [if_pos h, ha, List.take_length, List.drop_length]
      refine List.pairwise_append.2 ⟨ih, List.pairwise_singleton _ _, fun a h1 b h2 => ?_⟩
      rw [List.mem_singleton.1 h2]
      have h3 : (out.all fun x => !eqRow xs x n) = true := by simpa [keepL, hk] using h
      simpa using List.all_eq_true.1 h3 a h1
    · rw [if_neg h]; exact ih
theorem rowsL_id {xs : List Co} {o : Po} : ∀ n, (∀ r, r < n → keepL xs o (List.range r) r = true ∧ atL xs o (List.range r) r = r) → rowsL xs o n = List.range n
  | 0, _ => rfl
  | n + 1, h => by
    have ih := rowsL_id (xs := xs) (o := o) n fun r hr => h r (by omega)
    obtain ⟨h1, h2⟩ := h n (by omega)
    have e1 : (List.range n).take n = List.range n := List.take_of_length_le (by simp)
    have e2 : (List.range n).drop n = [] := List.drop_of_length_le (by simp)
    rw [rowsL_succ, ih, stepL, if_pos h1, h2, List.range_succ, e1, e2]
theorem srt_id {xs : List Co} {o : Po} {n : Nat} (hk : o.kind = 5) (hs : ∀ i j, i < j → j < n → leR xs o.col.toNat i j) : rowsL xs o n = List.range n := by
  refine rowsL_id n fun r hr => ⟨by simp [keepL, hk], ?_⟩
  unfold atL
  rw [if_pos hk, List.length_range]
  rcases r with _ | r
  · rfl
  · have e : (List.range (r + 1)).getD r 0 = r := by simp [List.getD]
    have h := hs r (r + 1) (by omega) hr
    unfold sortAt
    rw [e, if_neg]
    unfold gtC
    simpa [leR] using h
theorem dst_id {xs : List Co} {o : Po} {n : Nat} (hk : o.kind = 4) (hs : ∀ i j, i < j → j < n → eqRow xs i j = false) : rowsL xs o n = List.range n := by
  refine rowsL_id n fun r hr => ⟨?_, by simp [atL, hk]⟩
  have h3 : ((List.range r).all fun x => !eqRow xs x r) = true := List.all_eq_true.2 fun x hx => by simp [hs x r (List.mem_range.1 hx) hr]
  simpa [keepL, hk] using h3
theorem pair_at {α : Type} {R : α → α → Prop} {l : List α} (h : l.Pairwise R) {i j : Nat} (hij : i < j) (hj : j < l.length) (d : α) : R (l.getD i d) (l.getD j d) := by
  have h1 := List.pairwise_iff_getElem.1 h i j (by omega) hj hij
  simpa [List.getD, hj, show i < l.length by omega] using h1
theorem doL_rows {xs : List Co} {o : Po} (hk : o.kind ≠ 3) : doL xs o = selL xs (rowsL xs o (rowsC xs)) := by unfold doL; rw [if_neg hk]
/-- distinct rows, sorted: nothing changes them any more -/
theorem ops_once {xs : List Co} {D S : Po} (hD : D.kind = 4) (hS : S.kind = 5) (hc : S.col.toNat < xs.length) :
    doL (doL (doL (doL xs D) S) S) D = doL (doL xs D) S ∧ (∀ i j, i < j → j < rowsC (doL (doL xs D) S) → leR (doL (doL xs D) S) S.col.toNat i j) ∧ ∀ i j, i < j → j < rowsC (doL (doL xs D) S) → eqRow (doL (doL xs D) S) i j = false := by
  have hx : 0 < xs.length := by omega
  obtain ⟨us, hu, h1, h2⟩ : ∃ us, doL (doL xs D) S = selL xs us ∧ us.Pairwise (leR xs S.col.toNat) ∧ us.Pairwise (fun a b => eqRow xs a b = false) := by
    rw [doL_rows (xs := xs) (o := D) (by omega)]
    have hr := rowsL_D (xs := xs) hD (rowsC xs)
    generalize rowsL xs D (rowsC xs) = rs at *
    rw [doL_rows (by omega), rowsC_sel hx]
    have hm := (rowsL_ok (selL xs rs) S rs.length).2
    have hp := rowsL_perm (xs := selL xs rs) hS rs.length
    have hs := rowsL_sorted (xs := selL xs rs) hS rs.length
    generalize rowsL (selL xs rs) S rs.length = ss at *
    rw [sel_sel xs rs ss hm]
    refine ⟨_, rfl, ?_, ?_⟩
    · refine List.pairwise_map.2 (hs.imp_of_mem fun {a b} ha hb h => ?_)
      unfold leR at *
      rw [cellAt_sel hc (hm a ha), cellAt_sel hc (hm b hb)] at h
      exact h
    · have hp2 := hp.map fun i => rs.getD i 0
      rw [map_range_getD] at hp2
      exact (hp2.pairwise_iff fun {a b} h => by rw [eqRow_comm]; exact h).2 hr
  rw [hu]
  have hl : (selL xs us).length = xs.length := selL_len _ _
  have hn : rowsC (selL xs us) = us.length := rowsC_sel hx
  have g1 : ∀ i j, i < j → j < us.length → leR (selL xs us) S.col.toNat i j := fun i j hij hj => by
    unfold leR
    rw [cellAt_sel hc (by omega), cellAt_sel hc hj]
    exact pair_at h1 hij hj 0
  have g2 : ∀ i j, i < j → j < us.length → eqRow (selL xs us) i j = false := fun i j hij hj => by
    rw [eqRow_sel (by omega) hj]
    exact pair_at h2 hij hj 0
  have e1 : doL (selL xs us) S = selL xs us := by
    rw [doL_rows (by omega), hn, srt_id hS g1, sel_range sel_cols]
  have e2 : doL (selL xs us) D = selL xs us := by
    rw [doL_rows (by omega), hn, dst_id hD g2, sel_range sel_cols]
  refine ⟨by rw [e1, e2], by rw [hn]; exact g1, by rw [hn]; exact g2⟩
end Go.Proofs.YtfmlpaplnkohpaaGreatDoor

namespace Go.Proofs.YtfmlpaplnkohpaaGreatDoor
open Go.RowKit

instance : DecidableEq Co := fun a b => decidable_of_iff (a.name = b.name ∧ a.cells = b.cells) (by cases a; cases b; simp)
def opEq (k : Nat) (s : ByteArray) : Po := ⟨1, (k : Int), s, []⟩
def opFull (k : Nat) : Po := ⟨2, (k : Int), ⟨#[]⟩, []⟩
def opProj (ks : List Nat) : Po := ⟨3, 0, ⟨#[]⟩, ks.map fun (k : Nat) => (k : Int)⟩
def opDist : Po := ⟨4, 0, ⟨#[]⟩, []⟩
def opSort (k : Nat) : Po := ⟨5, (k : Int), ⟨#[]⟩, []⟩
def runL (xs : List Co) (os : List Po) : List Co := os.foldl doL xs
theorem runL_append (xs : List Co) (a b : List Po) : runL xs (a ++ b) = runL (runL xs a) b := List.foldl_append
/-- the texts of a column, each once, in order -/
def hasC (c : Co) : List ByteArray := setOfL ((c.cells.filter fun x => !x.null).map Cl.text)
def filters1 (c : Co) (k : Nat) : List (List Po) := [opFull k] :: (hasC c).map fun s => [opEq k s]
def filtersL (xs : List Co) : List (List Po) := [] :: (List.range xs.length).flatMap fun k => filters1 (xs.getD k Co.z) k
def sortsL (n : Nat) : List (List Po) := [] :: (List.range n).map fun k => [opSort k]
def endsL (n : Nat) : List (List Po) := sortsL n ++ (sortsL n).map (opDist :: ·)
def fromL (a b : List Co) : List Nat := b.map fun c => idxN a c.name
/-- the operation that gives the names of b; none: a name is missing -/
def projOf (a b : List Co) : Option (List Po) :=
  if b.all (fun c => (namesL a).any fun s => decide (s = c.name)) = true then (if a.length = b.length ∧ fromL a b = List.range b.length then some [] else some [opProj (fromL a b)]) else none
def finderF (a b : List Co) (p : List Po) (most : Nat) (f : List Po) : Option (List Po) :=
  if most < f.length + p.length then none
  else if rowsC (runL a (f ++ p)) < rowsC b then none
  else (endsL b.length).findSome? fun e => if (f ++ p).length + e.length = most ∧ runL (runL a (f ++ p)) e = b then some (f ++ p ++ e) else none
def finderL (a b : List Co) (p : List Po) (most : Nat) : Option (List Po) := (filtersL a).findSome? (finderF a b p most)
def findL (a b : List Co) : Option (List Po) := match projOf a b with
  | none => none
  | some p => (List.range 5).findSome? (finderL a b p)

theorem finder_some {a b : List Co} {p l : List Po} {most : Nat} (h : finderL a b p most = some l) :
    ∃ f e, f ∈ filtersL a ∧ e ∈ endsL b.length ∧ l = f ++ p ++ e ∧ l.length = most ∧ runL a l = b := by
  obtain ⟨l1, f, l2, e1, h1, -⟩ := List.findSome?_eq_some_iff.1 h
  unfold finderF at h1
  split at h1
  · cases h1
  · split at h1
    · cases h1
    · obtain ⟨m1, e, m2, e2, h2, -⟩ := List.findSome?_eq_some_iff.1 h1
      split at h2
      · rename_i hc
        obtain rfl := Option.some.inj h2
        refine ⟨f, e, by rw [e1]; simp, by rw [e2]; simp, rfl, by rw [List.length_append]; exact hc.1, ?_⟩
        rw [runL_append]
        exact hc.2
      · cases h2
theorem find_shape {a b : List Co} {l : List Po} (h : findL a b = some l) : ∃ f p e, f ∈ filtersL a ∧ projOf a b = some p ∧ e ∈ endsL b.length ∧ l = f ++ p ++ e ∧ l.length ≤ 4 ∧ runL a l = b := by
  unfold findL at h
  split at h
  · cases h
  · rename_i p hp
    obtain ⟨m1, m, m2, e1, h1, -⟩ := List.findSome?_eq_some_iff.1 h
    obtain ⟨f, e, h2, h3, h4, h5, h6⟩ := finder_some h1
    have hm : m ∈ List.range 5 := by rw [e1]; simp
    have := List.mem_range.1 hm
    exact ⟨f, p, e, h2, hp, h3, h4, by omega, h6⟩
/-- what leads there in the normal form is found, by no more operations -/
theorem find_done {a b : List Co} {f p e : List Po} (hf : f ∈ filtersL a) (hp : projOf a b = some p) (he : e ∈ endsL b.length) (hr : runL a (f ++ p ++ e) = b) (hl : (f ++ p ++ e).length ≤ 4) (hn : rowsC b ≤ rowsC (runL a (f ++ p))) :
    ∃ l, findL a b = some l ∧ l.length ≤ (f ++ p ++ e).length := by
  have hlen : (f ++ p ++ e).length = f.length + p.length + e.length := by rw [List.length_append, List.length_append]
  have h1 : (finderF a b p (f ++ p ++ e).length f).isSome = true := by
    unfold finderF
    rw [if_neg (by omega), if_neg (by omega)]
    rw [List.findSome?_isSome_iff]
    refine ⟨e, he, ?_⟩
    rw [if_pos ⟨by rw [hlen, List.length_append], by rw [← runL_append]; exact hr⟩]
    rfl
  have h2 : (finderL a b p (f ++ p ++ e).length).isSome = true := by
    unfold finderL
    rw [List.findSome?_isSome_iff]
    exact ⟨f, hf, h1⟩
  have h3 : ((List.range 5).findSome? (finderL a b p)).isSome = true := by
    rw [List.findSome?_isSome_iff]
    exact ⟨_, List.mem_range.2 (by omega), h2⟩
  obtain ⟨l, hl2⟩ := Option.isSome_iff_exists.1 h3
  refine ⟨l, by unfold findL; rw [hp]; exact hl2, ?_⟩
  obtain ⟨m1, m, m2, e1, h4, h5⟩ := List.findSome?_eq_some_iff.1 hl2
  obtain ⟨f2, e2, -, -, -, h6, -⟩ := finder_some h4
  rw [h6]
  refine Nat.le_of_not_lt fun hlt => ?_
  have hsort : (m1 ++ m :: m2).Pairwise (· < ·) := by rw [← e1]; exact List.pairwise_lt_range
  have hmem : (f ++ p ++ e).length ∈ m1 ++ m :: m2 := by rw [← e1]; exact List.mem_range.2 (by omega)
  rcases List.mem_append.1 hmem with hx | hx
  · have := h5 _ hx
    rw [this] at h2
    cases h2
  · rcases List.mem_cons.1 hx with hx | hx
    · omega
    · have := (List.pairwise_cons.1 (List.pairwise_append.1 hsort).2.1).1 _ hx
      omega
/-- a name that is missing: nothing is found -/
theorem find_missing {a b : List Co} {c : Co} (hc : c ∈ b) (h : c.name ∉ namesL a) : findL a b = none := by
  have e : projOf a b = none := by
    unfold projOf
    rw [if_neg]
    intro hh
    have := List.all_eq_true.1 hh c hc
    obtain ⟨s, hs, he⟩ := List.any_eq_true.1 this
    exact h (by rw [← of_decide_eq_true he]; exact hs)
  unfold findL
  rw [e]
end Go.Proofs.YtfmlpaplnkohpaaGreatDoor
