/- Plain: what explain finds leads there, by no more operations (for ExplainLeads). Plain: what explain finds can be done, and is in normal form (for ExplainShape and ExplainLeads). Plain: the normal form of what explain finds (for ExplainShape). Plain: which table comes from which (chapter 39). No program in sight. Plain: ancestors and roots (chapter 39). No program in sight. Plain: LineageAlone and LineageGrows (chapter 39). No program in sight. Plain: LineageRight and LineageNearest (chapter 39). No program in sight. -/
import Derived.Test.YtfmlpaplnkohpaaGreatDoorLnRtad
set_option linter.unusedVariables false
set_option linter.unusedSimpArgs false
namespace Go.Proofs.YtfmlpaplnkohpaaGreatDoor
open Go.RowKit

theorem names_sel (xs : List Co) (rs : List Nat) : namesL (selL xs rs) = namesL xs := by simp [namesL, selL, pickC, Function.comp_def]
theorem names_do {xs : List Co} {o : Po} (hk : o.kind ≠ 3) : namesL (doL xs o) = namesL xs := by rw [doL_rows hk, names_sel]
theorem names_run : ∀ {os : List Po} {xs : List Co}, (∀ o ∈ os, o.kind ≠ 3) → namesL (runL xs os) = namesL xs
  | [], _, _ => rfl
  | o :: os, xs, h => by
    show namesL (runL (doL xs o) os) = _
    rw [names_run fun p hp => h p (by simp [hp]), names_do (h o (by simp))]
theorem names_len {xs ys : List Co} (h : namesL xs = namesL ys) : xs.length = ys.length := by simpa [namesL] using congrArg List.length h
theorem filters_kind {a : List Co} {f : List Po} (h : f ∈ filtersL a) : ∀ o ∈ f, o.kind = 1 ∨ o.kind = 2 := by
  intro o ho
  rcases List.mem_cons.1 h with rfl | h
  · cases ho
  · obtain ⟨k, -, h⟩ := List.mem_flatMap.1 h
    rcases List.mem_cons.1 h with rfl | h
    · rw [List.mem_singleton.1 ho]; right; rfl
    · obtain ⟨s, -, rfl⟩ := List.mem_map.1 h
      rw [List.mem_singleton.1 ho]; left; rfl
theorem sorts_kind {n : Nat} {e : List Po} (h : e ∈ sortsL n) : ∀ o ∈ e, o.kind = 5 := by
  intro o ho
  rcases List.mem_cons.1 h with rfl | h
  · cases ho
  · obtain ⟨k, -, rfl⟩ := List.mem_map.1 h
    rw [List.mem_singleton.1 ho]; rfl
theorem ends_kind {n : Nat} {e : List Po} (h : e ∈ endsL n) : ∀ o ∈ e, o.kind = 4 ∨ o.kind = 5 := by
  intro o ho
  rcases List.mem_append.1 h with h | h
  · exact .inr (sorts_kind h o ho)
  · obtain ⟨e', he, rfl⟩ := List.mem_map.1 h
    rcases List.mem_cons.1 ho with rfl | ho
    · left; rfl
    · exact .inr (sorts_kind he o ho)
theorem rows_do {xs : List Co} {o : Po} (hk : o.kind ≠ 3) : rowsC (doL xs o) ≤ rowsC xs := by
  rw [doL_rows hk]
  rcases Nat.eq_zero_or_pos xs.length with h | h
  · have e : xs = [] := List.eq_nil_of_length_eq_zero h
    subst e
    simp [selL]
  · rw [rowsC_sel h]
    exact (rowsL_ok xs o _).1
theorem rows_run : ∀ {os : List Po} {xs : List Co}, (∀ o ∈ os, o.kind ≠ 3) → rowsC (runL xs os) ≤ rowsC xs
  | [], _, _ => Nat.le_refl _
  | o :: os, xs, h => by
    show rowsC (runL (doL xs o) os) ≤ _
    exact Nat.le_trans (rows_run fun p hp => h p (by simp [hp])) (rows_do (h o (by simp)))
theorem fromL_names (a b : List Co) : fromL a b = (namesL b).map (idxN a) := by simp [fromL, namesL, Function.comp_def]
theorem name_at {xs ys : List Co} (h : namesL xs = namesL ys) (k : Nat) : (xs.getD k Co.z).name = (ys.getD k Co.z).name := by rw [← namesL_getD, ← namesL_getD, h]
theorem all_there {a b : List Co} (h : ∀ s ∈ namesL b, s ∈ namesL a) : b.all (fun c => (namesL a).any fun s => decide (s = c.name)) = true :=
  List.all_eq_true.2 fun c hc => List.any_eq_true.2 ⟨c.name, h _ (List.mem_map_of_mem hc), by simp⟩
theorem proj_none {a b : List Co} (hn : (namesL a).Nodup) (h : namesL b = namesL a) : projOf a b = some [] := by
  unfold projOf
  rw [if_pos (all_there fun s hs => by rw [← h]; exact hs), if_pos]
  have hl := names_len h
  refine ⟨hl.symm, ?_⟩
  rw [fromL_names, h, hl]
  refine List.ext_getElem (by simp [namesL]) fun i h1 h2 => ?_
  have hi : i < a.length := by simpa using h2
  have e : (namesL a)[i]'(by simpa [namesL] using hi) = (a.getD i Co.z).name := by simp [namesL, List.getD, hi]
  simp only [List.getElem_map, List.getElem_range]
  rw [e]
  exact idxN_at hn hi
theorem proj_some {a b : List Co} {ks : List Nat} (hn : (namesL a).Nodup) (hk : ∀ k ∈ ks, k < a.length) (h : namesL b = ks.map fun k => (a.getD k Co.z).name) (hne : ¬ (a.length = ks.length ∧ ks = List.range ks.length)) : projOf a b = some [opProj ks] := by
  have hf : fromL a b = ks := by
    rw [fromL_names, h, List.map_map]
    refine (List.map_congr_left (g := id) fun k hkk => ?_).trans (by simp)
    exact idxN_at hn (hk k hkk)
  have hl : b.length = ks.length := by simpa [namesL] using congrArg List.length h
  unfold projOf
  rw [if_pos (all_there fun s hs => ?_), if_neg, hf]
  · rw [hf, hl]; exact hne
  · rw [h] at hs
    obtain ⟨k, hkk, rfl⟩ := List.mem_map.1 hs
    exact name_mem (hk k hkk)
/-- what was made in the normal form is found, by no more operations -/
theorem leads_none {a : List Co} {f e : List Po} (hn : (namesL a).Nodup) (hf : f ∈ filtersL a) (he : e ∈ endsL a.length) (hl : (f ++ e).length ≤ 4) :
    ∃ l, findL a (runL a (f ++ e)) = some l ∧ l.length ≤ (f ++ e).length ∧ runL a l = runL a (f ++ e) := by
  have hfk := filters_kind hf
  have hek := ends_kind he
  have h1 : namesL (runL a (f ++ e)) = namesL a := names_run fun o ho => by
    rcases List.mem_append.1 ho with h | h
    · have := hfk o h; omega
    · have := hek o h; omega
  have hlen := names_len h1
  have h2 := find_done (a := a) (b := runL a (f ++ e)) (p := []) hf (proj_none hn h1) (by rw [hlen]; exact he) (by rw [List.append_nil]) (by rw [List.append_nil]; exact hl) (by
    rw [List.append_nil, runL_append]
    exact rows_run fun o ho => by have := hek o ho; omega)
  rw [List.append_nil] at h2
  obtain ⟨l, h3, h4⟩ := h2
  obtain ⟨-, -, -, -, -, -, -, -, h5⟩ := find_shape h3
  exact ⟨l, h3, h4, h5⟩
theorem leads_some {a : List Co} {f e : List Po} {ks : List Nat} (hn : (namesL a).Nodup) (hf : f ∈ filtersL a) (hk : ∀ k ∈ ks, k < a.length) (hne : ¬ (a.length = ks.length ∧ ks = List.range ks.length)) (he : e ∈ endsL ks.length) (hl : (f ++ [opProj ks] ++ e).length ≤ 4) :
    ∃ l, findL a (runL a (f ++ [opProj ks] ++ e)) = some l ∧ l.length ≤ (f ++ [opProj ks] ++ e).length ∧ runL a l = runL a (f ++ [opProj ks] ++ e) := by
  have hfk := filters_kind hf
  have hek := ends_kind he
  have h0 : namesL (runL a f) = namesL a := names_run fun o ho => by have := hfk o ho; omega
  have hp : runL a (f ++ [opProj ks]) = projL (runL a f) (ks.map fun (k : Nat) => (k : Int)) := by
    rw [runL_append]
    rfl
  have h1 : namesL (runL a (f ++ [opProj ks])) = ks.map fun k => (a.getD k Co.z).name := by
    rw [hp]
    simp only [namesL, projL, List.map_map]
    refine List.map_congr_left fun k _ => ?_
    exact name_at h0 k
  have h2 : namesL (runL a (f ++ [opProj ks] ++ e)) = ks.map fun k => (a.getD k Co.z).name := by
    rw [runL_append, names_run (fun o ho => by have := hek o ho; omega), h1]
  have hlen : (runL a (f ++ [opProj ks] ++ e)).length = ks.length := by simpa [namesL] using congrArg List.length h2
  obtain ⟨l, h3, h4⟩ := find_done (a := a) (b := runL a (f ++ [opProj ks] ++ e)) (p := [opProj ks]) hf (proj_some hn hk h2 hne) (by rw [hlen]; exact he) rfl hl (by
    rw [runL_append a (f ++ [opProj ks]) e]
    exact rows_run fun o ho => by have := hek o ho; omega)
  obtain ⟨-, -, -, -, -, -, -, -, h5⟩ := find_shape h3
  exact ⟨l, h3, h4, h5⟩
/-- a table leads to itself by nothing -/
theorem leads_self {a : List Co} (hn : (namesL a).Nodup) : findL a a = some [] := by
  have h := leads_none (a := a) (f := []) (e := []) hn (by simp [filtersL]) (by simp [endsL, sortsL]) (by simp)
  obtain ⟨l, h1, h2, -⟩ := h
  have e : l = [] := List.eq_nil_of_length_eq_zero (by simpa using h2)
  rw [e] at h1
  exact h1
end Go.Proofs.YtfmlpaplnkohpaaGreatDoor

namespace Go.Proofs.YtfmlpaplnkohpaaGreatDoor
open Go.RowKit

/-- operations that can be done one after another -/
def canRun : List Co → List Po → Bool
  | _, [] => true
  | xs, o :: os => canL xs.length o && canRun (doL xs o) os
theorem canRun_append : ∀ (a : List Po) (xs : List Co) (b : List Po), canRun xs (a ++ b) = (canRun xs a && canRun (runL xs a) b)
  | [], _, _ => by simp [canRun, runL]
  | o :: a, xs, b => by
    show (canL xs.length o && canRun (doL xs o) (a ++ b)) = _
    rw [canRun_append a]
    simp [canRun, runL, Bool.and_assoc]
theorem there_of {n k : Nat} (h : k < n) : thereL n (k : Int) = true := by
  unfold thereL
  simp
  omega
theorem can_eq {n k : Nat} {s : ByteArray} (h : k < n) (hs : s.size ≤ 1024) : canL n (opEq k s) = true := by
  unfold canL opEq
  rw [if_pos rfl, there_of h]
  simp [hs]
theorem can_full {n k : Nat} (h : k < n) : canL n (opFull k) = true := by
  unfold canL opFull
  rw [if_neg (show ¬ ((2 : Int) = 1) by decide), if_pos (.inl rfl), there_of h]
  rfl
theorem can_sort {n k : Nat} (h : k < n) : canL n (opSort k) = true := by
  unfold canL opSort
  rw [if_neg (show ¬ ((5 : Int) = 1) by decide), if_pos (.inr rfl), there_of h]
  rfl
theorem can_dist (n : Nat) : canL n opDist = true := by
  unfold canL opDist
  rw [if_neg (by decide), if_neg (by decide), if_neg (by decide)]
  rfl
theorem can_proj {n : Nat} {ks : List Nat} (h : ∀ k ∈ ks, k < n) (hl : ks.length ≤ 64) : canL n (opProj ks) = true := by
  unfold canL opProj
  rw [if_neg (show ¬ ((3 : Int) = 1) by decide), if_neg (show ¬ ((3 : Int) = 2 ∨ (3 : Int) = 5) by decide), if_pos rfl]
  have h1 : (ks.map fun (k : Nat) => (k : Int)).all (thereL n) = true := List.all_eq_true.2 fun x hx => by
    obtain ⟨k, hk, rfl⟩ := List.mem_map.1 hx
    exact there_of (h k hk)
  have h2 : decide (ks.length ≤ 64) = true := decide_eq_true hl
  rw [h1]
  show (true && (true && true && decide ((ks.map fun (k : Nat) => (k : Int)).length ≤ 64))) = true
  rw [List.length_map, h2]
  rfl
theorem has_small {xs : List Co} {n k : Nat} (h : ColsV xs n) (hk : k < xs.length) {s : ByteArray} (hs : s ∈ hasC (xs.getD k Co.z)) : s.size ≤ 1024 := by
  have h1 := setOfL_mem _ _ hs
  obtain ⟨c, hc, rfl⟩ := List.mem_map.1 h1
  have h2 := ((h _ (getD_mem hk Co.z)).2.2 c (List.mem_filter.1 hc).1).2.1
  omega
theorem can_filters {xs : List Co} {n : Nat} {f : List Po} (h : ColsV xs n) (hf : f ∈ filtersL xs) : canRun xs f = true := by
  rcases List.mem_cons.1 hf with rfl | hf
  · rfl
  · obtain ⟨k, hk, hf⟩ := List.mem_flatMap.1 hf
    have hk' := List.mem_range.1 hk
    rcases List.mem_cons.1 hf with rfl | hf
    · simp [canRun, can_full hk']
    · obtain ⟨s, hs, rfl⟩ := List.mem_map.1 hf
      simp [canRun, can_eq hk' (has_small h hk' hs)]
theorem can_sorts {xs : List Co} {e : List Po} (he : e ∈ sortsL xs.length) : canRun xs e = true := by
  rcases List.mem_cons.1 he with rfl | he
  · rfl
  · obtain ⟨k, hk, rfl⟩ := List.mem_map.1 he
    simp [canRun, can_sort (List.mem_range.1 hk)]
theorem can_ends {xs : List Co} {e : List Po} (he : e ∈ endsL xs.length) : canRun xs e = true := by
  rcases List.mem_append.1 he with he | he
  · exact can_sorts he
  · obtain ⟨e', h1, rfl⟩ := List.mem_map.1 he
    have h2 : (doL xs opDist).length = xs.length := names_len (names_do (by decide))
    rw [← h2] at h1
    show (canL xs.length opDist && canRun (doL xs opDist) e') = true
    rw [can_dist, can_sorts h1]
    rfl
/-- the project step -/
theorem proj_form {a b : List Co} {p : List Po} (h : projOf a b = some p) : (∀ c ∈ b, c.name ∈ namesL a) ∧ (p = [] ∧ a.length = b.length ∨ p = [opProj (fromL a b)]) := by
  unfold projOf at h
  split at h
  · rename_i hall
    refine ⟨fun c hc => ?_, ?_⟩
    · obtain ⟨s, hs, he⟩ := List.any_eq_true.1 (List.all_eq_true.1 hall c hc)
      rw [← of_decide_eq_true he]; exact hs
    · split at h
      · rename_i hc
        exact .inl ⟨(Option.some.inj h).symm, hc.1⟩
      · exact .inr (Option.some.inj h).symm
  · cases h
theorem from_lt {a b : List Co} (h : ∀ c ∈ b, c.name ∈ namesL a) : ∀ k ∈ fromL a b, k < a.length := fun k hk => by
  obtain ⟨c, hc, rfl⟩ := List.mem_map.1 hk
  exact idxN_lt (h c hc)
theorem can_found {a b : List Co} {n : Nat} {l : List Po} (hv : ColsV a n) (hb : b.length ≤ 64) (h : findL a b = some l) : canRun a l = true := by
  obtain ⟨f, p, e, hf, hp, he, rfl, -, -⟩ := find_shape h
  have hfl : (runL a f).length = a.length := names_len (names_run fun o ho => by have := filters_kind hf o ho; omega)
  obtain ⟨h1, h2⟩ := proj_form hp
  rw [canRun_append, canRun_append, can_filters hv hf]
  rcases h2 with ⟨rfl, h2⟩ | rfl
  · have e1 : (runL a (f ++ [])).length = b.length := by rw [List.append_nil, hfl, h2]
    have e2 := can_ends (xs := runL a (f ++ [])) (e := e) (by rw [e1]; exact he)
    rw [e2]
    rfl
  · have e1 : (runL a (f ++ [opProj (fromL a b)])).length = b.length := by
      rw [runL_append]
      show (projL (runL a f) _).length = _
      simp [projL, fromL, opProj]
    have e3 := can_ends (xs := runL a (f ++ [opProj (fromL a b)])) (e := e) (by rw [e1]; exact he)
    rw [e3]
    have e2 : canL (runL a f).length (opProj (fromL a b)) = true := can_proj (fun k hk => by rw [hfl]; exact from_lt h1 k hk) (by simpa [fromL] using hb)
    simp [canRun, e2]
end Go.Proofs.YtfmlpaplnkohpaaGreatDoor

namespace Go.Proofs.YtfmlpaplnkohpaaGreatDoor
open Go.RowKit

def rankP (k : Int) : Nat := if k = 1 ∨ k = 2 then 1 else if k = 3 then 2 else if k = 4 then 3 else if k = 5 then 4 else 0
theorem filters_form {a : List Co} {f : List Po} (h : f ∈ filtersL a) : f = [] ∨ ∃ o, f = [o] ∧ rankP o.kind = 1 := by
  rcases List.mem_cons.1 h with rfl | h
  · exact .inl rfl
  · obtain ⟨k, -, h⟩ := List.mem_flatMap.1 h
    rcases List.mem_cons.1 h with rfl | h
    · exact .inr ⟨_, rfl, rfl⟩
    · obtain ⟨s, -, rfl⟩ := List.mem_map.1 h
      exact .inr ⟨_, rfl, rfl⟩
theorem sorts_form {n : Nat} {e : List Po} (h : e ∈ sortsL n) : e = [] ∨ ∃ k, k < n ∧ e = [opSort k] := by
  rcases List.mem_cons.1 h with rfl | h
  · exact .inl rfl
  · obtain ⟨k, hk, rfl⟩ := List.mem_map.1 h
    exact .inr ⟨k, List.mem_range.1 hk, rfl⟩
theorem ends_form {n : Nat} {e : List Po} (h : e ∈ endsL n) : e = [] ∨ (∃ k, k < n ∧ e = [opSort k]) ∨ e = [opDist] ∨ ∃ k, k < n ∧ e = [opDist, opSort k] := by
  rcases List.mem_append.1 h with h | h
  · rcases sorts_form h with h | h
    · exact .inl h
    · exact .inr (.inl h)
  · obtain ⟨e', h1, rfl⟩ := List.mem_map.1 h
    rcases sorts_form h1 with rfl | ⟨k, hk, rfl⟩
    · exact .inr (.inr (.inl rfl))
    · exact .inr (.inr (.inr ⟨k, hk, rfl⟩))
theorem shape_rank {a b : List Co} {l : List Po} (h : findL a b = some l) : (l.map fun o => rankP o.kind).Pairwise (· < ·) ∧ ∀ o ∈ l, 0 < rankP o.kind := by
  obtain ⟨f, p, e, hf, hp, he, rfl, -, -⟩ := find_shape h
  have r3 : rankP (opProj (fromL a b)).kind = 2 := rfl
  have r4 : rankP opDist.kind = 3 := rfl
  have r5 : ∀ k, rankP (opSort k).kind = 4 := fun k => rfl
  rcases filters_form hf with rfl | ⟨o, rfl, r1⟩ <;> rcases (proj_form hp).2 with ⟨rfl, -⟩ | rfl <;> rcases ends_form he with rfl | ⟨k, -, rfl⟩ | rfl | ⟨k, -, rfl⟩ <;> simp_all
theorem idxP_before : ∀ {l : List ByteArray} {s : ByteArray} {j : Nat}, j < idxP l s → l.getD j ⟨#[]⟩ ≠ s
  | [], _, _, h => by simp [idxP] at h
  | x :: l, s, j, h => by
    unfold idxP at h
    by_cases e : x = s
    · rw [if_pos e] at h; omega
    · rw [if_neg e] at h
      rcases j with _ | j
      · exact e
      · rw [List.getD_cons_succ]
        exact idxP_before (by omega)
/-- the first column with the name -/
theorem from_first {a b : List Co} (h : ∀ c ∈ b, c.name ∈ namesL a) {i : Nat} (hi : i < b.length) :
    (a.getD ((fromL a b).getD i 0) Co.z).name = (b.getD i Co.z).name ∧ ∀ j, j < (fromL a b).getD i 0 → (a.getD j Co.z).name ≠ (b.getD i Co.z).name := by
  have e : (fromL a b).getD i 0 = idxN a (b.getD i Co.z).name := by simp [fromL, List.getD, hi]
  have hm := h _ (getD_mem hi Co.z)
  rw [e]
  refine ⟨idxN_name hm, fun j hj => ?_⟩
  rw [← namesL_getD]
  exact idxP_before hj
end Go.Proofs.YtfmlpaplnkohpaaGreatDoor

namespace Go.Proofs.YtfmlpaplnkohpaaGreatDoor
open Go.RowKit

structure Lk where
  src : Int
  dst : Int
  ops : List Po
def cellsT (t : Ta) : Nat := rowsC t.cols * t.cols.length
/-- a is greater than b -/
def grT (a b : Ta) : Bool := decide (cellsT b < cellsT a) || (decide (cellsT a = cellsT b) && decide (a.id < b.id))
theorem grT_iff (a b : Ta) : grT a b = true ↔ cellsT b < cellsT a ∨ (cellsT a = cellsT b ∧ a.id < b.id) := by simp [grT]
theorem grT_irrefl (a : Ta) : grT a a = false := by simp [grT]
theorem grT_trans {a b c : Ta} (h1 : grT a b = true) (h2 : grT b c = true) : grT a c = true := by
  rw [grT_iff] at *
  omega
theorem grT_total {a b : Ta} (h : a.id ≠ b.id) : grT a b = true ∨ grT b a = true := by
  rw [grT_iff, grT_iff]
  omega
def origO (b a : Ta) : Option (Ta × List Po) := if grT a b = true then (findL a.cols b.cols).map fun os => (a, os) else none
/-- the tables from which b may come -/
def fromsL (l : List Ta) (b : Ta) : List (Ta × List Po) := l.filterMap (origO b)
def cmpN (a b : Nat) : Int := if a < b then -1 else if a = b then 0 else 1
def cmpI (a b : Int) : Int := if a < b then -1 else if a = b then 0 else 1
/-- how origins compare -/
def nearO (x y : Ta × List Po) : Int :=
  if cmpN x.2.length y.2.length ≠ 0 then cmpN x.2.length y.2.length else if cmpN (cellsT x.1) (cellsT y.1) ≠ 0 then cmpN (cellsT x.1) (cellsT y.1) else cmpI y.1.id x.1.id
def minO (x : Ta × List Po) (r : List (Ta × List Po)) : Ta × List Po := r.foldl (fun m y => if nearO y m < 0 then y else m) x
def linkO (l : List Ta) (b : Ta) : Option Lk := match fromsL l b with
  | [] => none
  | x :: r => some ⟨(minO x r).1.id, b.id, (minO x r).2⟩
def linksL (l : List Ta) : List Lk := l.filterMap (linkO l)

theorem minO_mem : ∀ (r : List (Ta × List Po)) (x : Ta × List Po), minO x r ∈ x :: r
  | [], x => by simp [minO]
  | y :: r, x => by
    show minO (if nearO y x < 0 then y else x) r ∈ _
    have h := minO_mem r (if nearO y x < 0 then y else x)
    rcases List.mem_cons.1 h with h | h
    · rw [h]
      split
      · simp
      · simp
    · exact List.mem_cons_of_mem _ (List.mem_cons_of_mem _ h)
theorem nearO_lt (x y : Ta × List Po) : nearO x y < 0 ↔ x.2.length < y.2.length ∨ (x.2.length = y.2.length ∧ (cellsT x.1 < cellsT y.1 ∨ (cellsT x.1 = cellsT y.1 ∧ y.1.id < x.1.id))) := by
  unfold nearO cmpN cmpI
  repeat' split
  all_goals omega
/-- nothing is nearer than the least one -/
theorem minO_least : ∀ (r : List (Ta × List Po)) (x : Ta × List Po), ∀ y ∈ x :: r, ¬ nearO y (minO x r) < 0
  | [], x, y, h => by
    rw [List.mem_singleton.1 h]
    have e : minO x [] = x := rfl
    rw [e, nearO_lt]
    omega
  | z :: r, x, y, h => by
    have e : minO x (z :: r) = minO (if nearO z x < 0 then z else x) r := rfl
    rw [e]
    have h0 := minO_least r (if nearO z x < 0 then z else x) (if nearO z x < 0 then z else x) (by simp)
    have h1 := fun y (hy : y ∈ r) => minO_least r (if nearO z x < 0 then z else x) y (by simp [hy])
    generalize minO (if nearO z x < 0 then z else x) r = m at *
    rcases List.mem_cons.1 h with rfl | h
    · split at h0
      · rename_i hc
        rw [nearO_lt] at *
        omega
      · exact h0
    · rcases List.mem_cons.1 h with rfl | h
      · split at h0
        · exact h0
        · rename_i hc
          rw [nearO_lt] at *
          omega
      · exact h1 y h
theorem froms_iff {l : List Ta} {b : Ta} {y : Ta × List Po} : y ∈ fromsL l b ↔ y.1 ∈ l ∧ grT y.1 b = true ∧ findL y.1.cols b.cols = some y.2 := by
  unfold fromsL
  rw [List.mem_filterMap]
  constructor
  · rintro ⟨a, ha, h⟩
    unfold origO at h
    split at h
    · rename_i hg
      obtain ⟨os, h1, h2⟩ := Option.map_eq_some_iff.1 h
      subst h2
      exact ⟨ha, hg, h1⟩
    · cases h
  · rintro ⟨h1, h2, h3⟩
    refine ⟨y.1, h1, ?_⟩
    unfold origO
    rw [if_pos h2, h3]
    rfl
/-- the link of a table -/
theorem link_spec {l : List Ta} {b : Ta} {x : Lk} (h : linkO l b = some x) : ∃ a ∈ l, a.id = x.src ∧ b.id = x.dst ∧ grT a b = true ∧ findL a.cols b.cols = some x.ops ∧ ∀ y ∈ fromsL l b, ¬ nearO y (a, x.ops) < 0 := by
  unfold linkO at h
  split at h
  · cases h
  · rename_i y r e
    obtain rfl := Option.some.inj h
    have h1 := minO_mem r y
    rw [← e] at h1
    obtain ⟨h2, h3, h4⟩ := froms_iff.1 h1
    refine ⟨_, h2, rfl, rfl, h3, h4, fun z hz => ?_⟩
    rw [e] at hz
    exact minO_least r y z hz
theorem link_none {l : List Ta} {b : Ta} (h : linkO l b = none) : fromsL l b = [] := by
  unfold linkO at h
  split at h
  · assumption
  · cases h
/-- at most one link to each table -/
theorem links_dst {l : List Ta} (h : l.Pairwise fun a b => a.id < b.id) : (linksL l).Pairwise fun x y => x.dst < y.dst := by
  unfold linksL
  refine List.pairwise_filterMap.2 (h.imp fun {a b} hab x hx y hy => ?_)
  obtain ⟨-, -, -, e1, -⟩ := link_spec hx
  obtain ⟨-, -, -, e2, -⟩ := link_spec hy
  omega
end Go.Proofs.YtfmlpaplnkohpaaGreatDoor

namespace Go.Proofs.YtfmlpaplnkohpaaGreatDoor
open Go.RowKit

/-- the first link to a table -/
def toL (x : List Lk) (id : Int) : Option Lk := x.find? fun y => decide (y.dst = id)
theorem to_far {l m : List Ta} {i : Int} (h : ∀ c ∈ m, c.id ≠ i) : toL (m.filterMap (linkO l)) i = none := by
  unfold toL
  rw [List.find?_eq_none]
  intro y hy
  obtain ⟨c, hc, hy⟩ := List.mem_filterMap.1 hy
  obtain ⟨-, -, -, e, -⟩ := link_spec hy
  have := h c hc
  simp
  omega
theorem to_link {l : List Ta} : ∀ {m : List Ta} (_ : m.Pairwise fun a b => a.id < b.id) {b : Ta} (_ : b ∈ m), toL (m.filterMap (linkO l)) b.id = linkO l b
  | c :: m, hm, b, hb => by
    obtain ⟨h1, h2⟩ := List.pairwise_cons.1 hm
    by_cases hcb : c = b
    · subst hcb
      rw [List.filterMap_cons]
      rcases h : linkO l c with _ | y
      · exact to_far fun d hd => by have := h1 d hd; omega
      · obtain ⟨-, -, -, e, -⟩ := link_spec h
        unfold toL
        rw [List.find?_cons_of_pos (by simp [e])]
    · have hbm : b ∈ m := by
        rcases List.mem_cons.1 hb with h | h
        · exact absurd h.symm hcb
        · exact h
      have hlt := h1 b hbm
      rw [List.filterMap_cons]
      rcases h : linkO l c with _ | y
      · exact to_link h2 hbm
      · obtain ⟨-, -, -, e, -⟩ := link_spec h
        have h3 := to_link (l := l) h2 hbm
        unfold toL at *
        simp only
        rw [List.find?_cons_of_neg (by simp; omega)]
        exact h3
theorem toL_links {l : List Ta} (hl : l.Pairwise fun a b => a.id < b.id) {b : Ta} (hb : b ∈ l) : toL (linksL l) b.id = linkO l b := to_link hl hb
/-- the way up, by so many steps -/
def ancL (x : List Lk) : Nat → List Int → List Int
  | 0, seen => seen
  | k + 1, seen => match toL x (seen.getLastD 0) with
    | none => seen
    | some y => if seen.any (fun i => decide (i = y.src)) = true then seen else ancL x k (seen ++ [y.src])
theorem id_inj {l : List Ta} (hl : l.Pairwise fun a b => a.id < b.id) {a b : Ta} (ha : a ∈ l) (hb : b ∈ l) (h : a.id = b.id) : a = b := by
  obtain ⟨i, hi, rfl⟩ := List.getElem_of_mem ha
  obtain ⟨j, hj, rfl⟩ := List.getElem_of_mem hb
  rcases Nat.lt_trichotomy i j with h1 | h1 | h1
  · have := List.pairwise_iff_getElem.1 hl i j hi hj h1; omega
  · subst h1; rfl
  · have := List.pairwise_iff_getElem.1 hl j i hj hi h1; omega
/-- each step leads to a greater table -/
def upL (l : List Ta) : Ta → List Ta → Prop
  | _, [] => True
  | s, a :: r => a ∈ l ∧ grT a s = true ∧ (∃ y, linkO l s = some y ∧ y.src = a.id) ∧ upL l a r
theorem nodup_leI : ∀ {S l : List Int}, S.Nodup → (∀ t ∈ S, t ∈ l) → S.length ≤ l.length
  | [], _, _, _ => Nat.zero_le _
  | t :: S, l, hn, h => by
    obtain ⟨h1, h2⟩ := List.nodup_cons.1 hn
    have ht := h t (by simp)
    have h3 := nodup_leI (S := S) (l := l.erase t) h2 fun u hu => (List.mem_erase_of_ne (fun e => h1 (by rw [← e]; exact hu))).2 (h u (by simp [hu]))
    have h4 := List.length_erase_of_mem ht
    have h5 := List.length_pos_of_mem ht
    simp
    omega
theorem nodup_le {l S : List Ta} (hl : l.Pairwise fun a b => a.id < b.id) (hS : ∀ t ∈ S, t ∈ l) (hn : S.Nodup) : S.length ≤ l.length := by
  have h1 : (S.map Ta.id).Nodup := List.pairwise_map.2 (List.Pairwise.imp_of_mem (fun {a b} ha hb hab e => hab (id_inj hl (hS a ha) (hS b hb) e)) hn)
  have h2 := nodup_leI h1 (l := l.map Ta.id) fun i hi => by
    obtain ⟨t, ht, rfl⟩ := List.mem_map.1 hi
    exact List.mem_map_of_mem (hS t ht)
  simpa using h2
theorem anc_spec {l : List Ta} (hl : l.Pairwise fun a b => a.id < b.id) : ∀ (k : Nat) (S : List Ta) (s : Ta), (∀ t ∈ S ++ [s], t ∈ l) → (S ++ [s]).Nodup → (∀ t ∈ S, grT s t = true) → l.length < k + (S.length + 1) →
    ∃ way : List Ta, ancL (linksL l) k ((S ++ [s]).map Ta.id) = (S ++ [s] ++ way).map Ta.id ∧ upL l s way ∧ linkO l ((s :: way).getLastD s) = none
  | 0, S, s, h1, h2, _, h4 => by
    have := nodup_le hl h1 h2
    simp at this
    omega
  | k + 1, S, s, h1, h2, h3, h4 => by
    have hs : s ∈ l := h1 s (by simp)
    have e1 : ((S ++ [s]).map Ta.id).getLastD 0 = s.id := by simp
    unfold ancL
    rw [e1, toL_links hl hs]
    rcases hy : linkO l s with _ | y
    · exact ⟨[], by simp, trivial, by simpa using hy⟩
    · obtain ⟨a, ha, e2, -, hg, -⟩ := link_spec hy
      have hnew : ∀ t ∈ S ++ [s], grT a t = true := fun t ht => by
        rcases List.mem_append.1 ht with h | h
        · exact grT_trans hg (h3 t h)
        · rw [List.mem_singleton.1 h]; exact hg
      have hnot : a ∉ S ++ [s] := fun h => by have := hnew a h; rw [grT_irrefl] at this; cases this
      have hany : ((S ++ [s]).map Ta.id).any (fun i => decide (i = y.src)) = false := by
        rw [List.any_eq_false]
        intro i hi hd
        obtain ⟨t, ht, rfl⟩ := List.mem_map.1 hi
        have e3 : t.id = y.src := of_decide_eq_true hd
        exact hnot (by rw [id_inj hl ha (h1 t ht) (by omega)]; exact ht)
      simp only [hany]
      obtain ⟨way, w1, w2, w3⟩ := anc_spec hl k (S ++ [s]) a (fun t ht => by
        rcases List.mem_append.1 ht with h | h
        · exact h1 t h
        · rw [List.mem_singleton.1 h]; exact ha) (List.nodup_append.2 ⟨h2, by simp, fun t ht u hu e => by rw [List.mem_singleton.1 hu] at e; rw [e] at ht; exact hnot ht⟩) hnew (by simp; omega)
      refine ⟨a :: way, ?_, ⟨ha, hg, ⟨y, hy, e2.symm⟩, w2⟩, ?_⟩
      · have e4 : (S ++ [s]).map Ta.id ++ [y.src] = (S ++ [s] ++ [a]).map Ta.id := by simp [e2]
        simp only [Bool.false_eq_true, if_false]
        rw [e4, w1]
        simp
      · have e5 : (s :: a :: way).getLastD s = (a :: way).getLastD a := by simp [List.getLastD]
        rw [e5]; exact w3
end Go.Proofs.YtfmlpaplnkohpaaGreatDoor

namespace Go.Proofs.YtfmlpaplnkohpaaGreatDoor
open Go.RowKit

/-- a table with a name that is missing in a does not come from a -/
theorem orig_missing {a b : Ta} {c : Co} (hc : c ∈ b.cols) (h : c.name ∉ namesL a.cols) : origO b a = none := by
  unfold origO
  rw [find_missing hc h]
  split <;> rfl
theorem orig_self (a : Ta) : origO a a = none := by
  unfold origO
  rw [grT_irrefl]
  rfl
theorem link_of_none {l : List Ta} {b : Ta} (h : ∀ a ∈ l, origO b a = none) : linkO l b = none := by
  have e : fromsL l b = [] := List.filterMap_eq_nil_iff.2 h
  unfold linkO
  rw [e]
theorem fm_congr {f g : Ta → Option Lk} : ∀ {m : List Ta}, (∀ b ∈ m, f b = g b) → m.filterMap f = m.filterMap g
  | [], _ => rfl
  | b :: m, h => by
    rw [List.filterMap_cons, List.filterMap_cons, h b (by simp), fm_congr fun c hc => h c (by simp [hc])]
/-- a further table with names of its own changes no link, and has none -/
theorem links_grow {l : List Ta} {o : Ta} (h1 : ∀ b ∈ l, ∃ c ∈ b.cols, c.name ∉ namesL o.cols) (h2 : ∀ a ∈ l, ∃ c ∈ o.cols, c.name ∉ namesL a.cols) : linksL (l ++ [o]) = linksL l := by
  have e1 : ∀ b ∈ l, linkO (l ++ [o]) b = linkO l b := fun b hb => by
    obtain ⟨c, hc, hn⟩ := h1 b hb
    unfold linkO fromsL
    rw [List.filterMap_append]
    have e : [o].filterMap (origO b) = [] := List.filterMap_eq_nil_iff.2 fun a ha => by rw [List.mem_singleton.1 ha]; exact orig_missing hc hn
    rw [e, List.append_nil]
  have e2 : linkO (l ++ [o]) o = none := link_of_none fun a ha => by
    rcases List.mem_append.1 ha with h | h
    · obtain ⟨c, hc, hn⟩ := h2 a h
      exact orig_missing hc hn
    · rw [List.mem_singleton.1 h]; exact orig_self o
  unfold linksL
  rw [List.filterMap_append]
  have e3 : [o].filterMap (linkO (l ++ [o])) = [] := List.filterMap_eq_nil_iff.2 fun a ha => by rw [List.mem_singleton.1 ha]; exact e2
  rw [e3, List.append_nil]
  exact fm_congr e1
/-- tables with different names have no links, and a copy comes from its table -/
theorem links_alone {a b c : Ta} (h1 : ∃ x ∈ a.cols, x.name ∉ namesL b.cols) (h2 : ∃ x ∈ b.cols, x.name ∉ namesL a.cols) (hc : c.cols = a.cols) (hid : a.id < c.id) (hn : (namesL a.cols).Nodup) :
    linksL [a, b] = [] ∧ linksL [a, b, c] = [⟨a.id, c.id, []⟩] := by
  obtain ⟨x, hx, hxn⟩ := h1
  obtain ⟨y, hy, hyn⟩ := h2
  have oab : origO b a = none := orig_missing hy hyn
  have oba : origO a b = none := orig_missing hx hxn
  have obc : origO b c = none := orig_missing hy (by rw [hc]; exact hyn)
  have ocb : origO c b = none := orig_missing (by rw [hc]; exact hx) hxn
  have gca : grT c a = false := by
    have e : cellsT c = cellsT a := by unfold cellsT; rw [hc]
    unfold grT
    simp [e]
    omega
  have gac : grT a c = true := by
    rw [grT_iff]
    have e : cellsT c = cellsT a := by unfold cellsT; rw [hc]
    omega
  have oac : origO a c = none := by unfold origO; rw [gca]; rfl
  have oca : origO c a = some (a, []) := by
    unfold origO
    rw [if_pos gac, hc, leads_self hn]
    rfl
  refine ⟨?_, ?_⟩
  · simp [linksL, linkO, fromsL, oab, oba, orig_self]
  · simp [linksL, linkO, fromsL, oab, oba, obc, ocb, oac, oca, orig_self, minO]
end Go.Proofs.YtfmlpaplnkohpaaGreatDoor

namespace Go.Proofs.YtfmlpaplnkohpaaGreatDoor
open Go.RowKit

/-- a link is right -/
theorem link_right {l : List Ta} {x : Lk} (h : x ∈ linksL l) (hv : ∀ t ∈ l, TabV t) : ∃ a ∈ l, ∃ b ∈ l, a.id = x.src ∧ b.id = x.dst ∧ grT a b = true ∧ canRun a.cols x.ops = true ∧ runL a.cols x.ops = b.cols ∧ x.ops.length ≤ 4 := by
  obtain ⟨b, hb, hx⟩ := List.mem_filterMap.1 h
  obtain ⟨a, ha, e1, e2, hg, hf, -⟩ := link_spec hx
  obtain ⟨f, p, e, -, -, -, -, h4, h5⟩ := find_shape hf
  obtain ⟨n, -, hc⟩ := (hv a ha).cv
  exact ⟨a, ha, b, hb, e1, e2, hg, can_found hc (hv b hb).2.2.2.1 hf, h5, h4⟩
theorem count_parts {α β : Type} (f : α → Option β) : ∀ m : List α, (m.filter fun b => (f b).isNone).length + (m.filterMap f).length = m.length
  | [] => rfl
  | b :: m => by
    have h := count_parts f m
    rw [List.filterMap_cons]
    rcases e : f b with _ | y
    · simp [e]; omega
    · simp [e]; omega
/-- the tables that come from no other one -/
def rootsT (l : List Ta) : List Ta := l.filter fun b => (linkO l b).isNone
theorem roots_count (l : List Ta) : (rootsT l).length + (linksL l).length = l.length := count_parts _ _
theorem up_mem {l : List Ta} : ∀ {way : List Ta} {s : Ta}, upL l s way → ∀ a ∈ way, a ∈ l
  | [], _, _, a, h => by cases h
  | b :: way, s, h, a, ha => by
    obtain ⟨h1, -, -, h4⟩ := h
    rcases List.mem_cons.1 ha with rfl | ha
    · exact h1
    · exact up_mem h4 a ha
/-- the way from a table: it is as in anc_spec, at the table alone -/
theorem way_of {l : List Ta} (hl : l.Pairwise fun a b => a.id < b.id) {s : Ta} (hs : s ∈ l) {k : Nat} (hk : l.length ≤ k) :
    ∃ way : List Ta, ancL (linksL l) k [s.id] = (s :: way).map Ta.id ∧ upL l s way ∧ linkO l ((s :: way).getLastD s) = none ∧ (s :: way).getLastD s ∈ rootsT l := by
  obtain ⟨way, h1, h2, h3⟩ := anc_spec hl k [] s (fun t ht => by
    have e : t = s := by simpa using ht
    rw [e]
    exact hs) (by simp) (fun t ht => by cases ht) (by simp; omega)
  refine ⟨way, by simpa using h1, h2, h3, List.mem_filter.2 ⟨?_, by rw [h3]; rfl⟩⟩
  rcases way with _ | ⟨a, way⟩
  · simpa using hs
  · have e : (s :: a :: way).getLastD s = (a :: way).getLast (by simp) := by simp [List.getLastD, List.getLast?_eq_some_getLast]
    rw [e]
    exact up_mem h2 _ (List.getLast_mem _)
/-- no greater table leads to b by fewer operations than the one of its link, nor by as many with fewer cells -/
theorem link_nearest {l : List Ta} {a b : Ta} {ops : List Po} (ha : a ∈ l) (hg : grT a b = true) (hf : findL a.cols b.cols = some ops) :
    ∃ x a0, linkO l b = some x ∧ a0 ∈ l ∧ a0.id = x.src ∧ x.dst = b.id ∧ ¬ (ops.length < x.ops.length ∨ (ops.length = x.ops.length ∧ (cellsT a < cellsT a0 ∨ (cellsT a = cellsT a0 ∧ a0.id < a.id)))) := by
  have hm : (a, ops) ∈ fromsL l b := froms_iff.2 ⟨ha, hg, hf⟩
  rcases h : linkO l b with _ | x
  · have := link_none h
    rw [this] at hm
    cases hm
  · obtain ⟨a0, h1, h2, h3, -, -, h6⟩ := link_spec h
    have h7 := h6 _ hm
    rw [nearO_lt] at h7
    exact ⟨x, a0, rfl, h1, h2, h3.symm, h7⟩
end Go.Proofs.YtfmlpaplnkohpaaGreatDoor
