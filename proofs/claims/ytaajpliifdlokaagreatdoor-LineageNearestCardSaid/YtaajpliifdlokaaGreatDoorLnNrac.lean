/- Plain: how many elements two lists can pair, equal with equal. No program in sight. Plain: rows as texts, names, how columns are aligned, rows in common. No program in sight. Plain: operations on tables (chapter 38), as the reference does them. No program in sight. Plain: what operations do one after another (chapter 38): filters can be exchanged, sorting is done once for all. No program in sight. Plain: what explain finds (chapter 38). No program in sight. Plain: what explain finds leads there, by no more operations (for ExplainLeads). Plain: what explain finds can be done, and is in normal form (for ExplainShape and ExplainLeads). Plain: the normal form of what explain finds (for ExplainShape). Plain: which table comes from which (chapter 39). No program in sight. Plain: ancestors and roots (chapter 39). No program in sight. Plain: LineageAlone and LineageGrows (chapter 39). No program in sight. -/
import Derived.Lib.ItoaNum
import Derived.Test.YtaajpliifdlokaaGreatDoorLnNrab
import Derived.Test.YtaajpliifdlokaaGreatDoorLnNraa
set_option linter.unusedVariables false
set_option linter.unusedSimpArgs false
namespace Go.Proofs.YtaajpliifdlokaaGreatDoor
section
variable {α β : Type} [DecidableEq α] [DecidableEq β]
def comL : List α → List α → Nat
  | [], _ => 0
  | x :: A, B => if x ∈ B then comL A (B.erase x) + 1 else comL A B
end
def minSum (N : Nat) (f g : Nat → Nat) : Nat := ((List.range N).map fun i => min (f i) (g i)).sum
end Go.Proofs.YtaajpliifdlokaaGreatDoor
namespace Go.Proofs.YtaajpliifdlokaaGreatDoor
open Go.RowKit
instance clEq : DecidableEq Cl := fun a b =>
  if h : a.null = b.null ∧ a.text = b.text then .isTrue (by cases a; cases b; simp at h; simp [h]) else .isFalse (by rintro rfl; exact h ⟨rfl, rfl⟩)
def encC (c : Cl) : List UInt8 := if c.null = true then [45] else Lib.decDigits c.text.size ++ [58] ++ c.text.data.toList
def encR (r : List Cl) : List UInt8 := r.flatMap encC
def Cell1 (c : Cl) : Prop := (c.null = true → c.text = ⟨#[]⟩) ∧ c.text.size ≤ 1024
def namesL (xs : List Co) : List ByteArray := xs.map Co.name
def idxP : List ByteArray → ByteArray → Nat
  | [], _ => 0
  | x :: l, s => if x = s then 0 else idxP l s + 1
theorem idxP_lt : ∀ {l : List ByteArray} {s : ByteArray}, s ∈ l → idxP l s < l.length
  | x :: l, s, h => by
    unfold idxP
    by_cases e : x = s
    · rw [if_pos e]; simp
    · rw [if_neg e]
      have := idxP_lt (l := l) (s := s) (by rcases List.mem_cons.1 h with h | h; exact absurd h.symm e; exact h)
      simp; omega
theorem idxP_get : ∀ {l : List ByteArray} {s : ByteArray}, s ∈ l → l.getD (idxP l s) ⟨#[]⟩ = s
  | x :: l, s, h => by
    unfold idxP
    by_cases e : x = s
    · rw [if_pos e]; exact e
    · rw [if_neg e, List.getD_cons_succ]
      exact idxP_get (by rcases List.mem_cons.1 h with h | h; exact absurd h.symm e; exact h)
def idxN (xs : List Co) (s : ByteArray) : Nat := idxP (namesL xs) s
theorem namesL_getD (xs : List Co) (i : Nat) : (namesL xs).getD i ⟨#[]⟩ = (xs.getD i Co.z).name := by
  unfold namesL
  rw [List.getD, List.getElem?_map]
  simp only [List.getD]
  cases xs[i]? <;> rfl
def alignL (a b : List Co) : List Nat := (namesL a).map (idxN b)
def Aligns (a b : List Co) : Prop := (namesL a).Nodup ∧ (namesL b).Nodup ∧ (namesL a).Perm (namesL b)
instance (a b : List Co) : Decidable (Aligns a b) := by unfold Aligns; exact inferInstance
def cellAt (xs : List Co) (k i : Nat) : Cl := (xs.getD k Co.z).cells.getD i Cl.z
def rowAt (xs : List Co) (al : List Nat) (i : Nat) : List Cl := al.map fun k => cellAt xs k i
def rowsOf (xs : List Co) (al : List Nat) (n : Nat) : List (List Cl) := (List.range n).map (rowAt xs al)
def ownL (xs : List Co) : List Nat := List.range xs.length
def rowsN (xs : List Co) : Nat := (xs.getD 0 Co.z).cells.length
def commonL (a b : List Co) : Nat := if Aligns a b then comL (rowsOf a (ownL a) (rowsN a)) (rowsOf b (alignL a b) (rowsN b)) else 0
theorem Aligns.symm {a b : List Co} (h : Aligns a b) : Aligns b a := ⟨h.2.1, h.1, h.2.2.symm⟩
theorem Aligns.len {a b : List Co} (h : Aligns a b) : a.length = b.length := by
  have := h.2.2.length_eq
  simpa [namesL] using this
theorem idxN_lt {xs : List Co} {s : ByteArray} (h : s ∈ namesL xs) : idxN xs s < xs.length := by
  have := idxP_lt h
  simpa [idxN, namesL] using this
theorem idxN_name {xs : List Co} {s : ByteArray} (h : s ∈ namesL xs) : (xs.getD (idxN xs s) Co.z).name = s := by
  rw [← namesL_getD]
  exact idxP_get h
theorem name_mem {xs : List Co} {i : Nat} (hi : i < xs.length) : (xs.getD i Co.z).name ∈ namesL xs := by
  have e : xs.getD i Co.z = xs[i] := by simp [List.getD, hi]
  rw [e]
  exact List.mem_map_of_mem (List.getElem_mem hi)
def perL (p : List Nat) (r : List Cl) : List Cl := p.map fun k => r.getD k Cl.z
end Go.Proofs.YtaajpliifdlokaaGreatDoor

namespace Go.Proofs.YtaajpliifdlokaaGreatDoor
open Go.RowKit
structure Po where
  kind : Int
  col : Int
  text : ByteArray
  cols : List Int
def Po.val (o : Po) (v : Value) : Value := .agg #[.int .i64 o.kind, .int .i64 o.col, .string o.text, v]
def cmpC (a b : Cl) : Int := if a.null = true ∧ b.null = true then 0 else if a.null = true then -1 else if b.null = true then 1 else if sl a.text b.text = true then -1 else if a.text = b.text then 0 else 1
def thereL (n : Nat) (k : Int) : Bool := decide (0 ≤ k) && decide (k < n)
def canL (n : Nat) (o : Po) : Bool :=
  if o.kind = 1 then thereL n o.col && decide (o.cols.length = 0) && decide (o.text.size ≤ 1024)
  else if o.kind = 2 ∨ o.kind = 5 then thereL n o.col && decide (o.cols.length = 0) && decide (o.text.size = 0)
  else if o.kind = 3 then o.cols.all (thereL n) && (decide (o.col = 0) && decide (o.text.size = 0) && decide (o.cols.length ≤ 64))
  else decide (o.kind = 4) && decide (o.col = 0) && decide (o.text.size = 0) && decide (o.cols.length = 0)
def eqRow (xs : List Co) (x y : Nat) : Bool := xs.all fun c => decide (c.cells.getD x Cl.z = c.cells.getD y Cl.z)
def keepL (xs : List Co) (o : Po) (out : List Nat) (r : Nat) : Bool :=
  if o.kind = 1 then !(cellAt xs o.col.toNat r).null && decide ((cellAt xs o.col.toNat r).text = o.text)
  else if o.kind = 2 then !(cellAt xs o.col.toNat r).null
  else if o.kind = 4 then out.all fun x => !eqRow xs x r
  else true
def sortAt (f : Nat → Bool) (out : List Nat) : Nat → Nat
  | 0 => 0
  | k + 1 => if f (out.getD k 0) = true then sortAt f out k else k + 1
def gtC (xs : List Co) (c r x : Nat) : Bool := decide (0 < cmpC (cellAt xs c x) (cellAt xs c r))
def atL (xs : List Co) (o : Po) (out : List Nat) (r : Nat) : Nat := if o.kind = 5 then sortAt (gtC xs o.col.toNat r) out out.length else out.length
def stepL (xs : List Co) (o : Po) (out : List Nat) (r : Nat) : List Nat := if keepL xs o out r = true then out.take (atL xs o out r) ++ r :: out.drop (atL xs o out r) else out
def rowsL (xs : List Co) (o : Po) (n : Nat) : List Nat := (List.range n).foldl (stepL xs o) []
def projL (xs : List Co) (ks : List Int) : List Co := ks.map fun k => xs.getD k.toNat Co.z
def pickC (c : Co) (rs : List Nat) : Co := ⟨c.name, rs.map fun r => c.cells.getD r Cl.z⟩
def selL (xs : List Co) (rs : List Nat) : List Co := xs.map fun c => pickC c rs
def doL (xs : List Co) (o : Po) : List Co := if o.kind = 3 then projL xs o.cols else selL xs (rowsL xs o (rowsC xs))
theorem sortAt_le (f : Nat → Bool) (out : List Nat) : ∀ k, sortAt f out k ≤ k
  | 0 => Nat.le_refl _
  | k + 1 => by
    unfold sortAt
    split
    · exact Nat.le_succ_of_le (sortAt_le f out k)
    · exact Nat.le_refl _
theorem atL_le (xs : List Co) (o : Po) (out : List Nat) (r : Nat) : atL xs o out r ≤ out.length := by
  unfold atL
  split
  · exact sortAt_le _ _ _
  · exact Nat.le_refl _
theorem stepL_len (xs : List Co) (o : Po) (out : List Nat) (r : Nat) : (stepL xs o out r).length ≤ out.length + 1 := by
  unfold stepL
  split
  · have := atL_le xs o out r
    simp
    omega
  · omega
theorem stepL_mem {xs : List Co} {o : Po} {out : List Nat} {r x : Nat} (h : x ∈ stepL xs o out r) : x ∈ out ∨ x = r := by
  unfold stepL at h
  split at h
  · rcases List.mem_append.1 h with h | h
    · exact .inl (List.mem_of_mem_take h)
    · rcases List.mem_cons.1 h with h | h
      · exact .inr h
      · exact .inl (List.mem_of_mem_drop h)
  · exact .inl h
theorem rowsL_succ (xs : List Co) (o : Po) (n : Nat) : rowsL xs o (n + 1) = stepL xs o (rowsL xs o n) n := by simp [rowsL, List.range_succ]
theorem rowsL_ok (xs : List Co) (o : Po) : ∀ n, (rowsL xs o n).length ≤ n ∧ ∀ x ∈ rowsL xs o n, x < n
  | 0 => ⟨Nat.le_refl _, fun x h => by cases h⟩
  | n + 1 => by
    obtain ⟨h1, h2⟩ := rowsL_ok xs o n
    rw [rowsL_succ]
    refine ⟨Nat.le_trans (stepL_len _ _ _ _) (by omega), fun x hx => ?_⟩
    rcases stepL_mem hx with h | rfl
    · have := h2 x h; omega
    · omega
def ColsV (xs : List Co) (n : Nat) : Prop := ∀ x ∈ xs, TextOk 1024 x.name ∧ x.cells.length = n ∧ ∀ c ∈ x.cells, CellOk c
theorem TabV.cv {t : Ta} (h : TabV t) : ∃ n, n ≤ 4096 ∧ ColsV t.cols n := h.2.2.2.2
theorem sel_ok {xs : List Co} {n : Nat} (h : ColsV xs n) {rs : List Nat} (hr : ∀ r ∈ rs, r < n) : ColsV (selL xs rs) rs.length := by
  intro x hx
  obtain ⟨c, hc, rfl⟩ := List.mem_map.1 hx
  obtain ⟨h1, h2, h3⟩ := h c hc
  refine ⟨h1, by simp [pickC], fun d hd => ?_⟩
  obtain ⟨r, hrr, rfl⟩ := List.mem_map.1 hd
  have : r < c.cells.length := by rw [h2]; exact hr r hrr
  exact h3 _ (by rw [List.getD, List.getElem?_eq_getElem this]; exact List.getElem_mem this)
theorem proj_ok {xs : List Co} {n : Nat} (h : ColsV xs n) {ks : List Int} (hk : ks.all (thereL xs.length) = true) : ColsV (projL xs ks) n := by
  intro x hx
  obtain ⟨k, hkk, rfl⟩ := List.mem_map.1 hx
  have h1 := List.all_eq_true.1 hk k hkk
  unfold thereL at h1
  simp at h1
  have : k.toNat < xs.length := by omega
  exact h _ (by rw [List.getD, List.getElem?_eq_getElem this]; exact List.getElem_mem this)
theorem rowsC_of {xs : List Co} {n : Nat} (h : ColsV xs n) (hp : 0 < xs.length) : rowsC xs = n := by
  unfold rowsC
  refine (h _ ?_).2.1
  rw [List.getD, List.getElem?_eq_getElem hp]
  exact List.getElem_mem hp
theorem do_valid {t : Ta} (h : TabV t) {o : Po} (hc : canL t.cols.length o = true) : TabV ⟨t.id, t.name, doL t.cols o⟩ := by
  obtain ⟨h0, h1, h2, h3, n, hn, hx⟩ := h
  unfold doL
  by_cases h3' : o.kind = 3
  · have hc2 : o.cols.all (thereL t.cols.length) = true ∧ o.cols.length ≤ 64 := by
      unfold canL at hc
      rw [if_neg (by omega), if_neg (by omega), if_pos h3'] at hc
      simp only [Bool.and_eq_true, decide_eq_true_eq] at hc
      exact ⟨hc.1, hc.2.2⟩
    rw [if_pos h3']
    refine ⟨h0, h1, h2, by simpa [projL] using hc2.2, n, hn, proj_ok hx hc2.1⟩
  · rw [if_neg h3']
    obtain ⟨r1, r2⟩ := rowsL_ok t.cols o (rowsC t.cols)
    rcases Nat.eq_zero_or_pos t.cols.length with hz | hp
    · have e : t.cols = [] := List.eq_nil_of_length_eq_zero hz
      refine ⟨h0, h1, h2, by simp [selL, e], 0, by omega, fun x hx => by simp [selL, e] at hx⟩
    · have hrc := rowsC_of hx hp
      rw [hrc] at r1 r2 ⊢
      exact ⟨h0, h1, h2, by simpa [selL] using h3, _, by omega, sel_ok hx r2⟩
end Go.Proofs.YtaajpliifdlokaaGreatDoor

namespace Go.Proofs.YtaajpliifdlokaaGreatDoor
open Go.RowKit
theorem selL_len (xs : List Co) (rs : List Nat) : (selL xs rs).length = xs.length := by simp [selL]
theorem sel_getD (xs : List Co) (rs : List Nat) {k : Nat} (hk : k < xs.length) : (selL xs rs).getD k Co.z = pickC (xs.getD k Co.z) rs := by simp [selL, List.getD, hk]
theorem rowsC_sel {xs : List Co} {rs : List Nat} (h : 0 < xs.length) : rowsC (selL xs rs) = rs.length := by
  unfold rowsC
  rw [sel_getD xs rs h]
  simp [pickC]
def keepF (xs : List Co) (o : Po) (r : Nat) : Bool := if o.kind = 1 then !(cellAt xs o.col.toNat r).null && decide ((cellAt xs o.col.toNat r).text = o.text) else !(cellAt xs o.col.toNat r).null
theorem rowsL_F {xs : List Co} {o : Po} (hk : o.kind = 1 ∨ o.kind = 2) : ∀ n, rowsL xs o n = (List.range n).filter (keepF xs o)
  | 0 => rfl
  | n + 1 => by
    have h1 : keepL xs o (rowsL xs o n) n = keepF xs o n := by
      unfold keepL keepF
      rcases hk with h | h <;> simp [h]
    have h2 : atL xs o (rowsL xs o n) n = (rowsL xs o n).length := by
      unfold atL
      rw [if_neg (by omega)]
    rw [rowsL_succ, stepL, h1, h2, List.take_length, List.drop_length, rowsL_F hk n, List.range_succ, List.filter_append]
    by_cases h : keepF xs o n = true
    · rw [if_pos h]; simp [h]
    · rw [if_neg h]; simp [h]
theorem map_range_getD (l : List Nat) : (List.range l.length).map (fun i => l.getD i 0) = l := by
  refine List.ext_getElem (by simp) fun i h1 h2 => ?_
  simp [List.getD, h2]
def leR (xs : List Co) (c a b : Nat) : Prop := ¬ 0 < cmpC (cellAt xs c a) (cellAt xs c b)
theorem step_perm (xs : List Co) (o : Po) (out : List Nat) (r : Nat) (h : keepL xs o out r = true) : (stepL xs o out r).Perm (r :: out) := by
  unfold stepL
  rw [if_pos h]
  refine (List.perm_middle).trans ?_
  rw [List.take_append_drop]
theorem rowsL_perm {xs : List Co} {o : Po} (hk : o.kind = 5) : ∀ n, (rowsL xs o n).Perm (List.range n)
  | 0 => List.Perm.refl _
  | n + 1 => by
    rw [rowsL_succ, List.range_succ]
    refine (step_perm xs o _ n (by simp [keepL, hk])).trans ?_
    refine (List.Perm.cons n (rowsL_perm hk n)).trans ?_
    exact (List.perm_append_singleton n (List.range n)).symm
theorem eqRow_comm (xs : List Co) (a b : Nat) : eqRow xs a b = eqRow xs b a := by
  unfold eqRow
  congr 1
  funext c
  exact decide_eq_decide.2 eq_comm
theorem doL_rows {xs : List Co} {o : Po} (hk : o.kind ≠ 3) : doL xs o = selL xs (rowsL xs o (rowsC xs)) := by unfold doL; rw [if_neg hk]
end Go.Proofs.YtaajpliifdlokaaGreatDoor

namespace Go.Proofs.YtaajpliifdlokaaGreatDoor
open Go.RowKit
instance : DecidableEq Co := fun a b => decidable_of_iff (a.name = b.name ∧ a.cells = b.cells) (by cases a; cases b; simp)
def opEq (k : Nat) (s : ByteArray) : Po := ⟨1, (k : Int), s, []⟩
def opFull (k : Nat) : Po := ⟨2, (k : Int), ⟨#[]⟩, []⟩
def opProj (ks : List Nat) : Po := ⟨3, 0, ⟨#[]⟩, ks.map fun (k : Nat) => (k : Int)⟩
def opDist : Po := ⟨4, 0, ⟨#[]⟩, []⟩
def opSort (k : Nat) : Po := ⟨5, (k : Int), ⟨#[]⟩, []⟩
def runL (xs : List Co) (os : List Po) : List Co := os.foldl doL xs
theorem runL_append (xs : List Co) (a b : List Po) : runL xs (a ++ b) = runL (runL xs a) b := List.foldl_append
def hasC (c : Co) : List ByteArray := setOfL ((c.cells.filter fun x => !x.null).map Cl.text)
def filters1 (c : Co) (k : Nat) : List (List Po) := [opFull k] :: (hasC c).map fun s => [opEq k s]
def filtersL (xs : List Co) : List (List Po) := [] :: (List.range xs.length).flatMap fun k => filters1 (xs.getD k Co.z) k
def sortsL (n : Nat) : List (List Po) := [] :: (List.range n).map fun k => [opSort k]
def endsL (n : Nat) : List (List Po) := sortsL n ++ (sortsL n).map (opDist :: ·)
def fromL (a b : List Co) : List Nat := b.map fun c => idxN a c.name
def projOf (a b : List Co) : Option (List Po) :=
  if b.all (fun c => (namesL a).any fun s => decide (s = c.name)) = true then (if a.length = b.length ∧ fromL a b = List.range b.length then some [] else some [opProj (fromL a b)]) else none
def finderF (a b : List Co) (p : List Po) (most : Nat) (f : List Po) : Option (List Po) :=
  if most < f.length + p.length then none
  else if rowsC (runL a (f ++ p)) < rowsC b then none
  else (endsL b.length).findSome? fun e => if (f ++ p).length + e.length = most ∧ runL (runL a (f ++ p)) e = b then some (f ++ p ++ e) else none
def finderL (a b : List Co) (p : List Po) (most : Nat) : Option (List Po) := (filtersL a).findSome? (finderF a b p most)
def findL (a b : List Co) : Option (List Po) := match projOf a b with
  | none => none
  | some p => (List.range 5).findSome? (finderL a b p)
theorem finder_some {a b : List Co} {p l : List Po} {most : Nat} (h : finderL a b p most = some l) :
    ∃ f e, f ∈ filtersL a ∧ e ∈ endsL b.length ∧ l = f ++ p ++ e ∧ l.length = most ∧ runL a l = b := by
  obtain ⟨l1, f, l2, e1, h1, -⟩ := List.findSome?_eq_some_iff.1 h
  unfold finderF at h1
  split at h1
  · cases h1
  · split at h1
    · cases h1
    · obtain ⟨m1, e, m2, e2, h2, -⟩ := List.findSome?_eq_some_iff.1 h1
      split at h2
      · rename_i hc
        obtain rfl := Option.some.inj h2
        refine ⟨f, e, by rw [e1]; simp, by rw [e2]; simp, rfl, by rw [List.length_append]; exact hc.1, ?_⟩
        rw [runL_append]
        exact hc.2
      · cases h2
theorem find_shape {a b : List Co} {l : List Po} (h : findL a b = some l) : ∃ f p e, f ∈ filtersL a ∧ projOf a b = some p ∧ e ∈ endsL b.length ∧ l = f ++ p ++ e ∧ l.length ≤ 4 ∧ runL a l = b := by
  unfold findL at h
  split at h
  · cases h
  · rename_i p hp
    obtain ⟨m1, m, m2, e1, h1, -⟩ := List.findSome?_eq_some_iff.1 h
    obtain ⟨f, e, h2, h3, h4, h5, h6⟩ := finder_some h1
    have hm : m ∈ List.range 5 := by rw [e1]; simp
    have := List.mem_range.1 hm
    exact ⟨f, p, e, h2, hp, h3, h4, by omega, h6⟩
theorem find_done {a b : List Co} {f p e : List Po} (hf : f ∈ filtersL a) (hp : projOf a b = some p) (he : e ∈ endsL b.length) (hr : runL a (f ++ p ++ e) = b) (hl : (f ++ p ++ e).length ≤ 4) (hn : rowsC b ≤ rowsC (runL a (f ++ p))) :
    ∃ l, findL a b = some l ∧ l.length ≤ (f ++ p ++ e).length := by
  have hlen : (f ++ p ++ e).length = f.length + p.length + e.length := by rw [List.length_append, List.length_append]
  have h1 : (finderF a b p (f ++ p ++ e).length f).isSome = true := by
    unfold finderF
    rw [if_neg (by omega), if_neg (by omega)]
    rw [List.findSome?_isSome_iff]
    refine ⟨e, he, ?_⟩
    rw [if_pos ⟨by rw [hlen, List.length_append], by rw [← runL_append]; exact hr⟩]
    rfl
  have h2 : (finderL a b p (f ++ p ++ e).length).isSome = true := by
    unfold finderL
    rw [List.findSome?_isSome_iff]
    exact ⟨f, hf, h1⟩
  have h3 : ((List.range 5).findSome? (finderL a b p)).isSome = true := by
    rw [List.findSome?_isSome_iff]
    exact ⟨_, List.mem_range.2 (by omega), h2⟩
  obtain ⟨l, hl2⟩ := Option.isSome_iff_exists.1 h3
  refine ⟨l, by unfold findL; rw [hp]; exact hl2, ?_⟩
  obtain ⟨m1, m, m2, e1, h4, h5⟩ := List.findSome?_eq_some_iff.1 hl2
  obtain ⟨f2, e2, -, -, -, h6, -⟩ := finder_some h4
  rw [h6]
  refine Nat.le_of_not_lt fun hlt => ?_
  have hsort : (m1 ++ m :: m2).Pairwise (· < ·) := by rw [← e1]; exact List.pairwise_lt_range
  have hmem : (f ++ p ++ e).length ∈ m1 ++ m :: m2 := by rw [← e1]; exact List.mem_range.2 (by omega)
  rcases List.mem_append.1 hmem with hx | hx
  · have := h5 _ hx
    rw [this] at h2
    cases h2
  · rcases List.mem_cons.1 hx with hx | hx
    · omega
    · have := (List.pairwise_cons.1 (List.pairwise_append.1 hsort).2.1).1 _ hx
      omega
end Go.Proofs.YtaajpliifdlokaaGreatDoor

namespace Go.Proofs.YtaajpliifdlokaaGreatDoor
open Go.RowKit
theorem names_sel (xs : List Co) (rs : List Nat) : namesL (selL xs rs) = namesL xs := by simp [namesL, selL, pickC, Function.comp_def]
theorem names_do {xs : List Co} {o : Po} (hk : o.kind ≠ 3) : namesL (doL xs o) = namesL xs := by rw [doL_rows hk, names_sel]
theorem names_run : ∀ {os : List Po} {xs : List Co}, (∀ o ∈ os, o.kind ≠ 3) → namesL (runL xs os) = namesL xs
  | [], _, _ => rfl
  | o :: os, xs, h => by
    show namesL (runL (doL xs o) os) = _
    rw [names_run fun p hp => h p (by simp [hp]), names_do (h o (by simp))]
theorem names_len {xs ys : List Co} (h : namesL xs = namesL ys) : xs.length = ys.length := by simpa [namesL] using congrArg List.length h
theorem filters_kind {a : List Co} {f : List Po} (h : f ∈ filtersL a) : ∀ o ∈ f, o.kind = 1 ∨ o.kind = 2 := by
  intro o ho
  rcases List.mem_cons.1 h with rfl | h
  · cases ho
  · obtain ⟨k, -, h⟩ := List.mem_flatMap.1 h
    rcases List.mem_cons.1 h with rfl | h
    · rw [List.mem_singleton.1 ho]; right; rfl
    · obtain ⟨s, -, rfl⟩ := List.mem_map.1 h
      rw [List.mem_singleton.1 ho]; left; rfl
theorem rows_do {xs : List Co} {o : Po} (hk : o.kind ≠ 3) : rowsC (doL xs o) ≤ rowsC xs := by
  rw [doL_rows hk]
  rcases Nat.eq_zero_or_pos xs.length with h | h
  · have e : xs = [] := List.eq_nil_of_length_eq_zero h
    subst e
    simp [selL]
  · rw [rowsC_sel h]
    exact (rowsL_ok xs o _).1
theorem all_there {a b : List Co} (h : ∀ s ∈ namesL b, s ∈ namesL a) : b.all (fun c => (namesL a).any fun s => decide (s = c.name)) = true :=
  List.all_eq_true.2 fun c hc => List.any_eq_true.2 ⟨c.name, h _ (List.mem_map_of_mem hc), by simp⟩
end Go.Proofs.YtaajpliifdlokaaGreatDoor

namespace Go.Proofs.YtaajpliifdlokaaGreatDoor
open Go.RowKit
def canRun : List Co → List Po → Bool
  | _, [] => true
  | xs, o :: os => canL xs.length o && canRun (doL xs o) os
theorem canRun_append : ∀ (a : List Po) (xs : List Co) (b : List Po), canRun xs (a ++ b) = (canRun xs a && canRun (runL xs a) b)
  | [], _, _ => by simp [canRun, runL]
  | o :: a, xs, b => by
    show (canL xs.length o && canRun (doL xs o) (a ++ b)) = _
    rw [canRun_append a]
    simp [canRun, runL, Bool.and_assoc]
theorem there_of {n k : Nat} (h : k < n) : thereL n (k : Int) = true := by
  unfold thereL
  simp
  omega
theorem can_eq {n k : Nat} {s : ByteArray} (h : k < n) (hs : s.size ≤ 1024) : canL n (opEq k s) = true := by
  unfold canL opEq
  rw [if_pos rfl, there_of h]
  simp [hs]
theorem can_full {n k : Nat} (h : k < n) : canL n (opFull k) = true := by
  unfold canL opFull
  rw [if_neg (show ¬ ((2 : Int) = 1) by decide), if_pos (.inl rfl), there_of h]
  rfl
theorem can_sort {n k : Nat} (h : k < n) : canL n (opSort k) = true := by
  unfold canL opSort
  rw [if_neg (show ¬ ((5 : Int) = 1) by decide), if_pos (.inr rfl), there_of h]
  rfl
theorem can_dist (n : Nat) : canL n opDist = true := by
  unfold canL opDist
  rw [if_neg (by decide), if_neg (by decide), if_neg (by decide)]
  rfl
theorem can_proj {n : Nat} {ks : List Nat} (h : ∀ k ∈ ks, k < n) (hl : ks.length ≤ 64) : canL n (opProj ks) = true := by
  unfold canL opProj
  rw [if_neg (show ¬ ((3 : Int) = 1) by decide), if_neg (show ¬ ((3 : Int) = 2 ∨ (3 : Int) = 5) by decide), if_pos rfl]
  have h1 : (ks.map fun (k : Nat) => (k : Int)).all (thereL n) = true := List.all_eq_true.2 fun x hx => by
    obtain ⟨k, hk, rfl⟩ := List.mem_map.1 hx
    exact there_of (h k hk)
  have h2 : decide (ks.length ≤ 64) = true := decide_eq_true hl
  rw [h1]
  show (true && (true && true && decide ((ks.map fun (k : Nat) => (k : Int)).length ≤ 64))) = true
  rw [List.length_map, h2]
  rfl
theorem has_small {xs : List Co} {n k : Nat} (h : ColsV xs n) (hk : k < xs.length) {s : ByteArray} (hs : s ∈ hasC (xs.getD k Co.z)) : s.size ≤ 1024 := by
  have h1 := setOfL_mem _ _ hs
  obtain ⟨c, hc, rfl⟩ := List.mem_map.1 h1
  have h2 := ((h _ (getD_mem hk Co.z)).2.2 c (List.mem_filter.1 hc).1).2.1
  omega
theorem can_filters {xs : List Co} {n : Nat} {f : List Po} (h : ColsV xs n) (hf : f ∈ filtersL xs) : canRun xs f = true := by
  rcases List.mem_cons.1 hf with rfl | hf
  · rfl
  · obtain ⟨k, hk, hf⟩ := List.mem_flatMap.1 hf
    have hk' := List.mem_range.1 hk
    rcases List.mem_cons.1 hf with rfl | hf
    · simp [canRun, can_full hk']
    · obtain ⟨s, hs, rfl⟩ := List.mem_map.1 hf
      simp [canRun, can_eq hk' (has_small h hk' hs)]
theorem can_sorts {xs : List Co} {e : List Po} (he : e ∈ sortsL xs.length) : canRun xs e = true := by
  rcases List.mem_cons.1 he with rfl | he
  · rfl
  · obtain ⟨k, hk, rfl⟩ := List.mem_map.1 he
    simp [canRun, can_sort (List.mem_range.1 hk)]
theorem can_ends {xs : List Co} {e : List Po} (he : e ∈ endsL xs.length) : canRun xs e = true := by
  rcases List.mem_append.1 he with he | he
  · exact can_sorts he
  · obtain ⟨e', h1, rfl⟩ := List.mem_map.1 he
    have h2 : (doL xs opDist).length = xs.length := names_len (names_do (by decide))
    rw [← h2] at h1
    show (canL xs.length opDist && canRun (doL xs opDist) e') = true
    rw [can_dist, can_sorts h1]
    rfl
theorem proj_form {a b : List Co} {p : List Po} (h : projOf a b = some p) : (∀ c ∈ b, c.name ∈ namesL a) ∧ (p = [] ∧ a.length = b.length ∨ p = [opProj (fromL a b)]) := by
  unfold projOf at h
  split at h
  · rename_i hall
    refine ⟨fun c hc => ?_, ?_⟩
    · obtain ⟨s, hs, he⟩ := List.any_eq_true.1 (List.all_eq_true.1 hall c hc)
      rw [← of_decide_eq_true he]; exact hs
    · split at h
      · rename_i hc
        exact .inl ⟨(Option.some.inj h).symm, hc.1⟩
      · exact .inr (Option.some.inj h).symm
  · cases h
theorem from_lt {a b : List Co} (h : ∀ c ∈ b, c.name ∈ namesL a) : ∀ k ∈ fromL a b, k < a.length := fun k hk => by
  obtain ⟨c, hc, rfl⟩ := List.mem_map.1 hk
  exact idxN_lt (h c hc)
theorem can_found {a b : List Co} {n : Nat} {l : List Po} (hv : ColsV a n) (hb : b.length ≤ 64) (h : findL a b = some l) : canRun a l = true := by
  obtain ⟨f, p, e, hf, hp, he, rfl, -, -⟩ := find_shape h
  have hfl : (runL a f).length = a.length := names_len (names_run fun o ho => by have := filters_kind hf o ho; omega)
  obtain ⟨h1, h2⟩ := proj_form hp
  rw [canRun_append, canRun_append, can_filters hv hf]
  rcases h2 with ⟨rfl, h2⟩ | rfl
  · have e1 : (runL a (f ++ [])).length = b.length := by rw [List.append_nil, hfl, h2]
    have e2 := can_ends (xs := runL a (f ++ [])) (e := e) (by rw [e1]; exact he)
    rw [e2]
    rfl
  · have e1 : (runL a (f ++ [opProj (fromL a b)])).length = b.length := by
      rw [runL_append]
      show (projL (runL a f) _).length = _
      simp [projL, fromL, opProj]
    have e3 := can_ends (xs := runL a (f ++ [opProj (fromL a b)])) (e := e) (by rw [e1]; exact he)
    rw [e3]
    have e2 : canL (runL a f).length (opProj (fromL a b)) = true := can_proj (fun k hk => by rw [hfl]; exact from_lt h1 k hk) (by simpa [fromL] using hb)
    simp [canRun, e2]
end Go.Proofs.YtaajpliifdlokaaGreatDoor

namespace Go.Proofs.YtaajpliifdlokaaGreatDoor
open Go.RowKit
def rankP (k : Int) : Nat := if k = 1 ∨ k = 2 then 1 else if k = 3 then 2 else if k = 4 then 3 else if k = 5 then 4 else 0
theorem filters_form {a : List Co} {f : List Po} (h : f ∈ filtersL a) : f = [] ∨ ∃ o, f = [o] ∧ rankP o.kind = 1 := by
  rcases List.mem_cons.1 h with rfl | h
  · exact .inl rfl
  · obtain ⟨k, -, h⟩ := List.mem_flatMap.1 h
    rcases List.mem_cons.1 h with rfl | h
    · exact .inr ⟨_, rfl, rfl⟩
    · obtain ⟨s, -, rfl⟩ := List.mem_map.1 h
      exact .inr ⟨_, rfl, rfl⟩
theorem sorts_form {n : Nat} {e : List Po} (h : e ∈ sortsL n) : e = [] ∨ ∃ k, k < n ∧ e = [opSort k] := by
  rcases List.mem_cons.1 h with rfl | h
  · exact .inl rfl
  · obtain ⟨k, hk, rfl⟩ := List.mem_map.1 h
    exact .inr ⟨k, List.mem_range.1 hk, rfl⟩
theorem ends_form {n : Nat} {e : List Po} (h : e ∈ endsL n) : e = [] ∨ (∃ k, k < n ∧ e = [opSort k]) ∨ e = [opDist] ∨ ∃ k, k < n ∧ e = [opDist, opSort k] := by
  rcases List.mem_append.1 h with h | h
  · rcases sorts_form h with h | h
    · exact .inl h
    · exact .inr (.inl h)
  · obtain ⟨e', h1, rfl⟩ := List.mem_map.1 h
    rcases sorts_form h1 with rfl | ⟨k, hk, rfl⟩
    · exact .inr (.inr (.inl rfl))
    · exact .inr (.inr (.inr ⟨k, hk, rfl⟩))
theorem idxP_before : ∀ {l : List ByteArray} {s : ByteArray} {j : Nat}, j < idxP l s → l.getD j ⟨#[]⟩ ≠ s
  | [], _, _, h => by simp [idxP] at h
  | x :: l, s, j, h => by
    unfold idxP at h
    by_cases e : x = s
    · rw [if_pos e] at h; omega
    · rw [if_neg e] at h
      rcases j with _ | j
      · exact e
      · rw [List.getD_cons_succ]
        exact idxP_before (by omega)
end Go.Proofs.YtaajpliifdlokaaGreatDoor

namespace Go.Proofs.YtaajpliifdlokaaGreatDoor
open Go.RowKit
structure Lk where
  src : Int
  dst : Int
  ops : List Po
def cellsT (t : Ta) : Nat := rowsC t.cols * t.cols.length
def grT (a b : Ta) : Bool := decide (cellsT b < cellsT a) || (decide (cellsT a = cellsT b) && decide (a.id < b.id))
theorem grT_iff (a b : Ta) : grT a b = true ↔ cellsT b < cellsT a ∨ (cellsT a = cellsT b ∧ a.id < b.id) := by simp [grT]
theorem grT_irrefl (a : Ta) : grT a a = false := by simp [grT]
def origO (b a : Ta) : Option (Ta × List Po) := if grT a b = true then (findL a.cols b.cols).map fun os => (a, os) else none
def fromsL (l : List Ta) (b : Ta) : List (Ta × List Po) := l.filterMap (origO b)
def cmpN (a b : Nat) : Int := if a < b then -1 else if a = b then 0 else 1
def cmpI (a b : Int) : Int := if a < b then -1 else if a = b then 0 else 1
def nearO (x y : Ta × List Po) : Int :=
  if cmpN x.2.length y.2.length ≠ 0 then cmpN x.2.length y.2.length else if cmpN (cellsT x.1) (cellsT y.1) ≠ 0 then cmpN (cellsT x.1) (cellsT y.1) else cmpI y.1.id x.1.id
def minO (x : Ta × List Po) (r : List (Ta × List Po)) : Ta × List Po := r.foldl (fun m y => if nearO y m < 0 then y else m) x
def linkO (l : List Ta) (b : Ta) : Option Lk := match fromsL l b with
  | [] => none
  | x :: r => some ⟨(minO x r).1.id, b.id, (minO x r).2⟩
def linksL (l : List Ta) : List Lk := l.filterMap (linkO l)
theorem minO_mem : ∀ (r : List (Ta × List Po)) (x : Ta × List Po), minO x r ∈ x :: r
  | [], x => by simp [minO]
  | y :: r, x => by
    show minO (if nearO y x < 0 then y else x) r ∈ _
    have h := minO_mem r (if nearO y x < 0 then y else x)
    rcases List.mem_cons.1 h with h | h
    · rw [h]
      split
      · simp
      · simp
    · exact List.mem_cons_of_mem _ (List.mem_cons_of_mem _ h)
theorem nearO_lt (x y : Ta × List Po) : nearO x y < 0 ↔ x.2.length < y.2.length ∨ (x.2.length = y.2.length ∧ (cellsT x.1 < cellsT y.1 ∨ (cellsT x.1 = cellsT y.1 ∧ y.1.id < x.1.id))) := by
  unfold nearO cmpN cmpI
  repeat' split
  all_goals omega
theorem minO_least : ∀ (r : List (Ta × List Po)) (x : Ta × List Po), ∀ y ∈ x :: r, ¬ nearO y (minO x r) < 0
  | [], x, y, h => by
    rw [List.mem_singleton.1 h]
    have e : minO x [] = x := rfl
    rw [e, nearO_lt]
    omega
  | z :: r, x, y, h => by
    have e : minO x (z :: r) = minO (if nearO z x < 0 then z else x) r := rfl
    rw [e]
    have h0 := minO_least r (if nearO z x < 0 then z else x) (if nearO z x < 0 then z else x) (by simp)
    have h1 := fun y (hy : y ∈ r) => minO_least r (if nearO z x < 0 then z else x) y (by simp [hy])
    generalize minO (if nearO z x < 0 then z else x) r = m at *
    rcases List.mem_cons.1 h with rfl | h
    · split at h0
      · rename_i hc
        rw [nearO_lt] at *
        omega
      · exact h0
    · rcases List.mem_cons.1 h with rfl | h
      · split at h0
        · exact h0
        · rename_i hc
          rw [nearO_lt] at *
          omega
      · exact h1 y h
theorem froms_iff {l : List Ta} {b : Ta} {y : Ta × List Po} : y ∈ fromsL l b ↔ y.1 ∈ l ∧ grT y.1 b = true ∧ findL y.1.cols b.cols = some y.2 := by
  unfold fromsL
  rw [List.mem_filterMap]
  constructor
  · rintro ⟨a, ha, h⟩
    unfold origO at h
    split at h
    · rename_i hg
      obtain ⟨os, h1, h2⟩ := Option.map_eq_some_iff.1 h
      subst h2
      exact ⟨ha, hg, h1⟩
    · cases h
  · rintro ⟨h1, h2, h3⟩
    refine ⟨y.1, h1, ?_⟩
    unfold origO
    rw [if_pos h2, h3]
    rfl
theorem link_spec {l : List Ta} {b : Ta} {x : Lk} (h : linkO l b = some x) : ∃ a ∈ l, a.id = x.src ∧ b.id = x.dst ∧ grT a b = true ∧ findL a.cols b.cols = some x.ops ∧ ∀ y ∈ fromsL l b, ¬ nearO y (a, x.ops) < 0 := by
  unfold linkO at h
  split at h
  · cases h
  · rename_i y r e
    obtain rfl := Option.some.inj h
    have h1 := minO_mem r y
    rw [← e] at h1
    obtain ⟨h2, h3, h4⟩ := froms_iff.1 h1
    refine ⟨_, h2, rfl, rfl, h3, h4, fun z hz => ?_⟩
    rw [e] at hz
    exact minO_least r y z hz
theorem link_none {l : List Ta} {b : Ta} (h : linkO l b = none) : fromsL l b = [] := by
  unfold linkO at h
  split at h
  · assumption
  · cases h
theorem links_dst {l : List Ta} (h : l.Pairwise fun a b => a.id < b.id) : (linksL l).Pairwise fun x y => x.dst < y.dst := by
  unfold linksL
  refine List.pairwise_filterMap.2 (h.imp fun {a b} hab x hx y hy => ?_)
  obtain ⟨-, -, -, e1, -⟩ := link_spec hx
  obtain ⟨-, -, -, e2, -⟩ := link_spec hy
  omega
end Go.Proofs.YtaajpliifdlokaaGreatDoor

namespace Go.Proofs.YtaajpliifdlokaaGreatDoor
open Go.RowKit
def toL (x : List Lk) (id : Int) : Option Lk := x.find? fun y => decide (y.dst = id)
def ancL (x : List Lk) : Nat → List Int → List Int
  | 0, seen => seen
  | k + 1, seen => match toL x (seen.getLastD 0) with
    | none => seen
    | some y => if seen.any (fun i => decide (i = y.src)) = true then seen else ancL x k (seen ++ [y.src])
theorem id_inj {l : List Ta} (hl : l.Pairwise fun a b => a.id < b.id) {a b : Ta} (ha : a ∈ l) (hb : b ∈ l) (h : a.id = b.id) : a = b := by
  obtain ⟨i, hi, rfl⟩ := List.getElem_of_mem ha
  obtain ⟨j, hj, rfl⟩ := List.getElem_of_mem hb
  rcases Nat.lt_trichotomy i j with h1 | h1 | h1
  · have := List.pairwise_iff_getElem.1 hl i j hi hj h1; omega
  · subst h1; rfl
  · have := List.pairwise_iff_getElem.1 hl j i hj hi h1; omega
def upL (l : List Ta) : Ta → List Ta → Prop
  | _, [] => True
  | s, a :: r => a ∈ l ∧ grT a s = true ∧ (∃ y, linkO l s = some y ∧ y.src = a.id) ∧ upL l a r
theorem nodup_leI : ∀ {S l : List Int}, S.Nodup → (∀ t ∈ S, t ∈ l) → S.length ≤ l.length
  | [], _, _, _ => Nat.zero_le _
  | t :: S, l, hn, h => by
    obtain ⟨h1, h2⟩ := List.nodup_cons.1 hn
    have ht := h t (by simp)
    have h3 := nodup_leI (S := S) (l := l.erase t) h2 fun u hu => (List.mem_erase_of_ne (fun e => h1 (by rw [← e]; exact hu))).2 (h u (by simp [hu]))
    have h4 := List.length_erase_of_mem ht
    have h5 := List.length_pos_of_mem ht
    simp
    omega
end Go.Proofs.YtaajpliifdlokaaGreatDoor

namespace Go.Proofs.YtaajpliifdlokaaGreatDoor
open Go.RowKit
end Go.Proofs.YtaajpliifdlokaaGreatDoor
