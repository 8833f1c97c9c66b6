/- Plain: which table comes from which (chapter 39). No program in sight. Plain: ancestors and roots (chapter 39). No program in sight. Plain: LineageAlone and LineageGrows (chapter 39). No program in sight. Plain: LineageRight and LineageNearest (chapter 39). No program in sight. Memory: the tables of chapter 39's example, while they are built. The tables of chapter 39's example. DERIVED: THE SHELF's CONTRACTS AT THIS DUMP, IN PLAIN WORDS (tools/lay-plain.mjs out of 'YtfmlpaplnkohpaaGreatDoorShVL.lean', which tools/lay-shelf.mjs wrote): THE SAME DECLARATIONS UNDER THE SAME NAMES: 'import', 'namespace', 'open', 'def', 'theorem' AND NOTHING ELSE: no command of the shelf's: FOR A HAND-IN. Each laying: the table of numbers ('.._ren') and one theorem, a field a fact of the dump's own or the kernel's comparison; each contract: ONE APPLICATION. Contracts of text.Valid and the reference's Valid; the tables of UTF-8. -/
import Derived.Test.YtfmlpaplnkohpaaGreatDoorLnBac
import Derived.Test.YtfmlpaplnkohpaaGreatDoorLnBab
import Derived.Shelf.Unicode.ValidAny
import Derived.Test.YtfmlpaplnkohpaaGreatDoorProg
import Derived.Test.YtfmlpaplnkohpaaGreatDoorLnBaa
set_option linter.unusedVariables false
set_option linter.unusedSimpArgs false
namespace Go.Proofs.YtfmlpaplnkohpaaGreatDoor
open Go.RowKit
structure Lk where
  src : Int
  dst : Int
  ops : List Po
def cellsT (t : Ta) : Nat := rowsC t.cols * t.cols.length
def grT (a b : Ta) : Bool := decide (cellsT b < cellsT a) || (decide (cellsT a = cellsT b) && decide (a.id < b.id))
theorem grT_iff (a b : Ta) : grT a b = true ↔ cellsT b < cellsT a ∨ (cellsT a = cellsT b ∧ a.id < b.id) := by simp [grT]
theorem grT_irrefl (a : Ta) : grT a a = false := by simp [grT]
theorem grT_trans {a b c : Ta} (h1 : grT a b = true) (h2 : grT b c = true) : grT a c = true := by
  rw [grT_iff] at *
  omega
def origO (b a : Ta) : Option (Ta × List Po) := if grT a b = true then (findL a.cols b.cols).map fun os => (a, os) else none
def fromsL (l : List Ta) (b : Ta) : List (Ta × List Po) := l.filterMap (origO b)
def cmpN (a b : Nat) : Int := if a < b then -1 else if a = b then 0 else 1
def cmpI (a b : Int) : Int := if a < b then -1 else if a = b then 0 else 1
def nearO (x y : Ta × List Po) : Int :=
  if cmpN x.2.length y.2.length ≠ 0 then cmpN x.2.length y.2.length else if cmpN (cellsT x.1) (cellsT y.1) ≠ 0 then cmpN (cellsT x.1) (cellsT y.1) else cmpI y.1.id x.1.id
def minO (x : Ta × List Po) (r : List (Ta × List Po)) : Ta × List Po := r.foldl (fun m y => if nearO y m < 0 then y else m) x
def linkO (l : List Ta) (b : Ta) : Option Lk := match fromsL l b with
  | [] => none
  | x :: r => some ⟨(minO x r).1.id, b.id, (minO x r).2⟩
def linksL (l : List Ta) : List Lk := l.filterMap (linkO l)
theorem minO_mem : ∀ (r : List (Ta × List Po)) (x : Ta × List Po), minO x r ∈ x :: r
  | [], x => by simp [minO]
  | y :: r, x => by
    show minO (if nearO y x < 0 then y else x) r ∈ _
    have h := minO_mem r (if nearO y x < 0 then y else x)
    rcases List.mem_cons.1 h with h | h
    · rw [h]
      split
      · simp
      · simp
    · exact List.mem_cons_of_mem _ (List.mem_cons_of_mem _ h)
theorem nearO_lt (x y : Ta × List Po) : nearO x y < 0 ↔ x.2.length < y.2.length ∨ (x.2.length = y.2.length ∧ (cellsT x.1 < cellsT y.1 ∨ (cellsT x.1 = cellsT y.1 ∧ y.1.id < x.1.id))) := by
  unfold nearO cmpN cmpI
  repeat' split
  all_goals omega
theorem minO_least : ∀ (r : List (Ta × List Po)) (x : Ta × List Po), ∀ y ∈ x :: r, ¬ nearO y (minO x r) < 0
  | [], x, y, h => by
    rw [List.mem_singleton.1 h]
    have e : minO x [] = x := rfl
    rw [e, nearO_lt]
    omega
  | z :: r, x, y, h => by
    have e : minO x (z :: r) = minO (if nearO z x < 0 then z else x) r := rfl
    rw [e]
    have h0 := minO_least r (if nearO z x < 0 then z else x) (if nearO z x < 0 then z else x) (by simp)
    have h1 := fun y (hy : y ∈ r) => minO_least r (if nearO z x < 0 then z else x) y (by simp [hy])
    generalize minO (if nearO z x < 0 then z else x) r = m at *
    rcases List.mem_cons.1 h with rfl | h
    · split at h0
      · rename_i hc
        rw [nearO_lt] at *
        omega
      · exact h0
    · rcases List.mem_cons.1 h with rfl | h
      · split at h0
        · exact h0
        · rename_i hc
          rw [nearO_lt] at *
          omega
      · exact h1 y h
theorem froms_iff {l : List Ta} {b : Ta} {y : Ta × List Po} : y ∈ fromsL l b ↔ y.1 ∈ l ∧ grT y.1 b = true ∧ findL y.1.cols b.cols = some y.2 := by
  unfold fromsL
  rw [List.mem_filterMap]
  constructor
  · rintro ⟨a, ha, h⟩
    unfold origO at h
    split at h
    · rename_i hg
      obtain ⟨os, h1, h2⟩ := Option.map_eq_some_iff.1 h
      subst h2
      exact ⟨ha, hg, h1⟩
    · cases h
  · rintro ⟨h1, h2, h3⟩
    refine ⟨y.1, h1, ?_⟩
    unfold origO
    rw [if_pos h2, h3]
    rfl
theorem link_spec {l : List Ta} {b : Ta} {x : Lk} (h : linkO l b = some x) : ∃ a ∈ l, a.id = x.src ∧ b.id = x.dst ∧ grT a b = true ∧ findL a.cols b.cols = some x.ops ∧ ∀ y ∈ fromsL l b, ¬ nearO y (a, x.ops) < 0 := by
  unfold linkO at h
  split at h
  · cases h
  · rename_i y r e
    obtain rfl := Option.some.inj h
    have h1 := minO_mem r y
    rw [← e] at h1
    obtain ⟨h2, h3, h4⟩ := froms_iff.1 h1
    refine ⟨_, h2, rfl, rfl, h3, h4, fun z hz => ?_⟩
    rw [e] at hz
    exact minO_least r y z hz
theorem links_dst {l : List Ta} (h : l.Pairwise fun a b => a.id < b.id) : (linksL l).Pairwise fun x y => x.dst < y.dst := by
  unfold linksL
  refine List.pairwise_filterMap.2 (h.imp fun {a b} hab x hx y hy => ?_)
  obtain ⟨-, -, -, e1, -⟩ := link_spec hx
  obtain ⟨-, -, -, e2, -⟩ := link_spec hy
  omega
end Go.Proofs.YtfmlpaplnkohpaaGreatDoor

namespace Go.Proofs.YtfmlpaplnkohpaaGreatDoor
open Go.RowKit
def toL (x : List Lk) (id : Int) : Option Lk := x.find? fun y => decide (y.dst = id)
theorem to_far {l m : List Ta} {i : Int} (h : ∀ c ∈ m, c.id ≠ i) : toL (m.filterMap (linkO l)) i = none := by
  unfold toL
  rw [List.find?_eq_none]
  intro y hy
  obtain ⟨c, hc, hy⟩ := List.mem_filterMap.1 hy
  obtain ⟨-, -, -, e, -⟩ := link_spec hy
  have := h c hc
  simp
  omega
theorem to_link {l : List Ta} : ∀ {m : List Ta} (_ : m.Pairwise fun a b => a.id < b.id) {b : Ta} (_ : b ∈ m), toL (m.filterMap (linkO l)) b.id = linkO l b
  | c :: m, hm, b, hb => by
    obtain ⟨h1, h2⟩ := List.pairwise_cons.1 hm
    by_cases hcb : c = b
    · subst hcb
      rw [List.filterMap_cons]
      rcases h : linkO l c with _ | y
      · exact to_far fun d hd => by have := h1 d hd; omega
      · obtain ⟨-, -, -, e, -⟩ := link_spec h
        unfold toL
        rw [List.find?_cons_of_pos (by simp [e])]
    · have hbm : b ∈ m := by
        rcases List.mem_cons.1 hb with h | h
        · exact absurd h.symm hcb
        · exact h
      have hlt := h1 b hbm
      rw [List.filterMap_cons]
      rcases h : linkO l c with _ | y
      · exact to_link h2 hbm
      · obtain ⟨-, -, -, e, -⟩ := link_spec h
        have h3 := to_link (l := l) h2 hbm
        unfold toL at *
        simp only
        rw [List.find?_cons_of_neg (by simp; omega)]
        exact h3
theorem toL_links {l : List Ta} (hl : l.Pairwise fun a b => a.id < b.id) {b : Ta} (hb : b ∈ l) : toL (linksL l) b.id = linkO l b := to_link hl hb
def ancL (x : List Lk) : Nat → List Int → List Int
  | 0, seen => seen
  | k + 1, seen => match toL x (seen.getLastD 0) with
    | none => seen
    | some y => if seen.any (fun i => decide (i = y.src)) = true then seen else ancL x k (seen ++ [y.src])
theorem id_inj {l : List Ta} (hl : l.Pairwise fun a b => a.id < b.id) {a b : Ta} (ha : a ∈ l) (hb : b ∈ l) (h : a.id = b.id) : a = b := by
  obtain ⟨i, hi, rfl⟩ := List.getElem_of_mem ha
  obtain ⟨j, hj, rfl⟩ := List.getElem_of_mem hb
  rcases Nat.lt_trichotomy i j with h1 | h1 | h1
  · have := List.pairwise_iff_getElem.1 hl i j hi hj h1; omega
  · subst h1; rfl
  · have := List.pairwise_iff_getElem.1 hl j i hj hi h1; omega
def upL (l : List Ta) : Ta → List Ta → Prop
  | _, [] => True
  | s, a :: r => a ∈ l ∧ grT a s = true ∧ (∃ y, linkO l s = some y ∧ y.src = a.id) ∧ upL l a r
theorem nodup_leI : ∀ {S l : List Int}, S.Nodup → (∀ t ∈ S, t ∈ l) → S.length ≤ l.length
  | [], _, _, _ => Nat.zero_le _
  | t :: S, l, hn, h => by
    obtain ⟨h1, h2⟩ := List.nodup_cons.1 hn
    have ht := h t (by simp)
    have h3 := nodup_leI (S := S) (l := l.erase t) h2 fun u hu => (List.mem_erase_of_ne (fun e => h1 (by rw [← e]; exact hu))).2 (h u (by simp [hu]))
    have h4 := List.length_erase_of_mem ht
    have h5 := List.length_pos_of_mem ht
    simp
    omega
theorem nodup_le {l S : List Ta} (hl : l.Pairwise fun a b => a.id < b.id) (hS : ∀ t ∈ S, t ∈ l) (hn : S.Nodup) : S.length ≤ l.length := by
  have h1 : (S.map Ta.id).Nodup := List.pairwise_map.2 (List.Pairwise.imp_of_mem (fun {a b} ha hb hab e => hab (id_inj hl (hS a ha) (hS b hb) e)) hn)
  have h2 := nodup_leI h1 (l := l.map Ta.id) fun i hi => by
    obtain ⟨t, ht, rfl⟩ := List.mem_map.1 hi
    exact List.mem_map_of_mem (hS t ht)
  simpa using h2
theorem anc_spec {l : List Ta} (hl : l.Pairwise fun a b => a.id < b.id) : ∀ (k : Nat) (S : List Ta) (s : Ta), (∀ t ∈ S ++ [s], t ∈ l) → (S ++ [s]).Nodup → (∀ t ∈ S, grT s t = true) → l.length < k + (S.length + 1) →
    ∃ way : List Ta, ancL (linksL l) k ((S ++ [s]).map Ta.id) = (S ++ [s] ++ way).map Ta.id ∧ upL l s way ∧ linkO l ((s :: way).getLastD s) = none
  | 0, S, s, h1, h2, _, h4 => by
    have := nodup_le hl h1 h2
    simp at this
    omega
  | k + 1, S, s, h1, h2, h3, h4 => by
    have hs : s ∈ l := h1 s (by simp)
    have e1 : ((S ++ [s]).map Ta.id).getLastD 0 = s.id := by simp
    unfold ancL
    rw [e1, toL_links hl hs]
    rcases hy : linkO l s with _ | y
    · exact ⟨[], by simp, trivial, by simpa using hy⟩
    · obtain ⟨a, ha, e2, -, hg, -⟩ := link_spec hy
      have hnew : ∀ t ∈ S ++ [s], grT a t = true := fun t ht => by
        rcases List.mem_append.1 ht with h | h
        · exact grT_trans hg (h3 t h)
        · rw [List.mem_singleton.1 h]; exact hg
      have hnot : a ∉ S ++ [s] := fun h => by have := hnew a h; rw [grT_irrefl] at this; cases this
      have hany : ((S ++ [s]).map Ta.id).any (fun i => decide (i = y.src)) = false := by
        rw [List.any_eq_false]
        intro i hi hd
        obtain ⟨t, ht, rfl⟩ := List.mem_map.1 hi
        have e3 : t.id = y.src := of_decide_eq_true hd
        exact hnot (by rw [id_inj hl ha (h1 t ht) (by omega)]; exact ht)
      simp only [hany]
      obtain ⟨way, w1, w2, w3⟩ := anc_spec hl k (S ++ [s]) a (fun t ht => by
        rcases List.mem_append.1 ht with h | h
        · exact h1 t h
        · rw [List.mem_singleton.1 h]; exact ha) (List.nodup_append.2 ⟨h2, by simp, fun t ht u hu e => by rw [List.mem_singleton.1 hu] at e; rw [e] at ht; exact hnot ht⟩) hnew (by simp; omega)
      refine ⟨a :: way, ?_, ⟨ha, hg, ⟨y, hy, e2.symm⟩, w2⟩, ?_⟩
      · have e4 : (S ++ [s]).map Ta.id ++ [y.src] = (S ++ [s] ++ [a]).map Ta.id := by simp [e2]
        simp only [Bool.false_eq_true, if_false]
        rw [e4, w1]
        simp
      · have e5 : (s :: a :: way).getLastD s = (a :: way).getLastD a := by simp [List.getLastD]
        rw [e5]; exact w3
end Go.Proofs.YtfmlpaplnkohpaaGreatDoor

namespace Go.Proofs.YtfmlpaplnkohpaaGreatDoor
open Go.RowKit
theorem orig_missing {a b : Ta} {c : Co} (hc : c ∈ b.cols) (h : c.name ∉ namesL a.cols) : origO b a = none := by
  unfold origO
  rw [find_missing hc h]
  split <;> rfl
theorem orig_self (a : Ta) : origO a a = none := by
  unfold origO
  rw [grT_irrefl]
  rfl
theorem link_of_none {l : List Ta} {b : Ta} (h : ∀ a ∈ l, origO b a = none) : linkO l b = none := by
  have e : fromsL l b = [] := List.filterMap_eq_nil_iff.2 h
  unfold linkO
  rw [e]
theorem fm_congr {f g : Ta → Option Lk} : ∀ {m : List Ta}, (∀ b ∈ m, f b = g b) → m.filterMap f = m.filterMap g
  | [], _ => rfl
  | b :: m, h => by
    rw [List.filterMap_cons, List.filterMap_cons, h b (by simp), fm_congr fun c hc => h c (by simp [hc])]
theorem links_grow {l : List Ta} {o : Ta} (h1 : ∀ b ∈ l, ∃ c ∈ b.cols, c.name ∉ namesL o.cols) (h2 : ∀ a ∈ l, ∃ c ∈ o.cols, c.name ∉ namesL a.cols) : linksL (l ++ [o]) = linksL l := by
  have e1 : ∀ b ∈ l, linkO (l ++ [o]) b = linkO l b := fun b hb => by
    obtain ⟨c, hc, hn⟩ := h1 b hb
    unfold linkO fromsL
    rw [List.filterMap_append]
    have e : [o].filterMap (origO b) = [] := List.filterMap_eq_nil_iff.2 fun a ha => by rw [List.mem_singleton.1 ha]; exact orig_missing hc hn
    rw [e, List.append_nil]
  have e2 : linkO (l ++ [o]) o = none := link_of_none fun a ha => by
    rcases List.mem_append.1 ha with h | h
    · obtain ⟨c, hc, hn⟩ := h2 a h
      exact orig_missing hc hn
    · rw [List.mem_singleton.1 h]; exact orig_self o
  unfold linksL
  rw [List.filterMap_append]
  have e3 : [o].filterMap (linkO (l ++ [o])) = [] := List.filterMap_eq_nil_iff.2 fun a ha => by rw [List.mem_singleton.1 ha]; exact e2
  rw [e3, List.append_nil]
  exact fm_congr e1
theorem links_alone {a b c : Ta} (h1 : ∃ x ∈ a.cols, x.name ∉ namesL b.cols) (h2 : ∃ x ∈ b.cols, x.name ∉ namesL a.cols) (hc : c.cols = a.cols) (hid : a.id < c.id) (hn : (namesL a.cols).Nodup) :
    linksL [a, b] = [] ∧ linksL [a, b, c] = [⟨a.id, c.id, []⟩] := by
  obtain ⟨x, hx, hxn⟩ := h1
  obtain ⟨y, hy, hyn⟩ := h2
  have oab : origO b a = none := orig_missing hy hyn
  have oba : origO a b = none := orig_missing hx hxn
  have obc : origO b c = none := orig_missing hy (by rw [hc]; exact hyn)
  have ocb : origO c b = none := orig_missing (by rw [hc]; exact hx) hxn
  have gca : grT c a = false := by
    have e : cellsT c = cellsT a := by unfold cellsT; rw [hc]
    unfold grT
    simp [e]
    omega
  have gac : grT a c = true := by
    rw [grT_iff]
    have e : cellsT c = cellsT a := by unfold cellsT; rw [hc]
    omega
  have oac : origO a c = none := by unfold origO; rw [gca]; rfl
  have oca : origO c a = some (a, []) := by
    unfold origO
    rw [if_pos gac, hc, leads_self hn]
    rfl
  refine ⟨?_, ?_⟩
  · simp [linksL, linkO, fromsL, oab, oba, orig_self]
  · simp [linksL, linkO, fromsL, oab, oba, obc, ocb, oac, oca, orig_self, minO]
end Go.Proofs.YtfmlpaplnkohpaaGreatDoor

namespace Go.Proofs.YtfmlpaplnkohpaaGreatDoor
open Go.RowKit
theorem link_right {l : List Ta} {x : Lk} (h : x ∈ linksL l) (hv : ∀ t ∈ l, TabV t) : ∃ a ∈ l, ∃ b ∈ l, a.id = x.src ∧ b.id = x.dst ∧ grT a b = true ∧ canRun a.cols x.ops = true ∧ runL a.cols x.ops = b.cols ∧ x.ops.length ≤ 4 := by
  obtain ⟨b, hb, hx⟩ := List.mem_filterMap.1 h
  obtain ⟨a, ha, e1, e2, hg, hf, -⟩ := link_spec hx
  obtain ⟨f, p, e, -, -, -, -, h4, h5⟩ := find_shape hf
  obtain ⟨n, -, hc⟩ := (hv a ha).cv
  exact ⟨a, ha, b, hb, e1, e2, hg, can_found hc (hv b hb).2.2.2.1 hf, h5, h4⟩
theorem count_parts {α β : Type} (f : α → Option β) : ∀ m : List α, (m.filter fun b => (f b).isNone).length + (m.filterMap f).length = m.length
  | [] => rfl
  | b :: m => by
    have h := count_parts f m
    rw [List.filterMap_cons]
    rcases e : f b with _ | y
    · simp [e]; omega
    · simp [e]; omega
def rootsT (l : List Ta) : List Ta := l.filter fun b => (linkO l b).isNone
theorem roots_count (l : List Ta) : (rootsT l).length + (linksL l).length = l.length := count_parts _ _
theorem up_mem {l : List Ta} : ∀ {way : List Ta} {s : Ta}, upL l s way → ∀ a ∈ way, a ∈ l
  | [], _, _, a, h => by cases h
  | b :: way, s, h, a, ha => by
    obtain ⟨h1, -, -, h4⟩ := h
    rcases List.mem_cons.1 ha with rfl | ha
    · exact h1
    · exact up_mem h4 a ha
theorem way_of {l : List Ta} (hl : l.Pairwise fun a b => a.id < b.id) {s : Ta} (hs : s ∈ l) {k : Nat} (hk : l.length ≤ k) :
    ∃ way : List Ta, ancL (linksL l) k [s.id] = (s :: way).map Ta.id ∧ upL l s way ∧ linkO l ((s :: way).getLastD s) = none ∧ (s :: way).getLastD s ∈ rootsT l := by
  obtain ⟨way, h1, h2, h3⟩ := anc_spec hl k [] s (fun t ht => by
    have e : t = s := by simpa using ht
    rw [e]
    exact hs) (by simp) (fun t ht => by cases ht) (by simp; omega)
  refine ⟨way, by simpa using h1, h2, h3, List.mem_filter.2 ⟨?_, by rw [h3]; rfl⟩⟩
  rcases way with _ | ⟨a, way⟩
  · simpa using hs
  · have e : (s :: a :: way).getLastD s = (a :: way).getLast (by simp) := by simp [List.getLastD, List.getLast?_eq_some_getLast]
    rw [e]
    exact up_mem h2 _ (List.getLast_mem _)
end Go.Proofs.YtfmlpaplnkohpaaGreatDoor

namespace Go.Proofs.YtfmlpaplnkohpaaGreatDoor
open Go.RowKit
theorem own_ne {w : World} {base : Nat} {e t : TypeId} {k n b : Nat} {v : Value} {L : List Value} {vs : Array Value} (h : w.ownsRow base e k v n L) (hb : BoxN w b t vs) (hne : e ≠ t) : v.ownBlock ≠ some b := by
  intro e1
  rcases h.2 with ⟨rfl, -⟩ | ⟨g, cap, cur, rfl, -, hg, -⟩
  · cases e1
  · have e2 : g = b := Option.some.inj e1
    subst e2
    unfold BoxN at hb
    rw [hb] at hg
    injection hg with h1
    injection h1 with h2 h3
    exact hne h3.symm
theorem own_ne2 {w : World} {base base' : Nat} {e t : TypeId} {k k' n n' b : Nat} {v v' : Value} {L L' : List Value} (h : w.ownsRow base e k v n L) (h' : w.ownsRow base' t k' v' n' L') (hne : e ≠ t) (hb : v'.ownBlock = some b) : v.ownBlock ≠ some b := by
  intro e1
  rcases h.2 with ⟨rfl, -⟩ | ⟨g, cap, cur, rfl, -, hg, -⟩
  · cases e1
  · rcases h'.2 with ⟨rfl, -⟩ | ⟨g', cap', cur', rfl, -, hg', -⟩
    · cases hb
    · have e2 : g = b := Option.some.inj e1
      have e3 : g' = b := Option.some.inj hb
      subst e2 e3
      rw [hg] at hg'
      injection hg' with h1
      injection h1 with h2 h3
      exact hne h3
theorem own_keepB {w w' : World} {base : Nat} {e : TypeId} {k n : Nat} {v : Value} {L : List Value} (h : w.ownsRow base e k v n L) (hk : ∀ b, v.ownBlock = some b → w'.heap[b]? = w.heap[b]?) : w'.ownsRow base e k v n L := by
  refine ⟨h.1, ?_⟩
  rcases h.2 with h1 | ⟨g, cap, cur, rfl, h2, hg, h3⟩
  · exact .inl h1
  · exact .inr ⟨g, cap, cur, rfl, h2, (hk g rfl).trans hg, h3⟩
def kCl : Cl := ⟨false, ⟨#[107]⟩⟩
def ksL (n : Nat) : List Cl := List.replicate n kCl
def digB : List ByteArray := [⟨#[49]⟩, ⟨#[50]⟩, ⟨#[51]⟩, ⟨#[52]⟩]
def nsL (n : Nat) : List Cl := (List.range n).map fun i => ⟨false, digB.getD i ⟨#[]⟩⟩
def chC (n : Nat) : List Co := [⟨⟨#[97]⟩, ksL n⟩, ⟨⟨#[98]⟩, nsL n⟩]
theorem ksL_len (n : Nat) : (ksL n).length = n := by simp [ksL]
theorem nsL_len (n : Nat) : (nsL n).length = n := by simp [nsL]
theorem ks_push (n : Nat) : flatK 2 n (clF (ksL n)) ++ [.bool false, .string ⟨#[107]⟩] = flatK 2 (n + 1) (clF (ksL (n + 1))) := by
  have h := cl_push (ksL n) kCl
  have e : ksL n ++ [kCl] = ksL (n + 1) := by simp [ksL, List.replicate_succ']
  rw [e, ksL_len, ksL_len] at h
  exact h
theorem ns_push (n : Nat) : flatK 2 n (clF (nsL n)) ++ [.bool false, .string (digB.getD n ⟨#[]⟩)] = flatK 2 (n + 1) (clF (nsL (n + 1))) := by
  have h := cl_push (nsL n) ⟨false, digB.getD n ⟨#[]⟩⟩
  have e : nsL n ++ [⟨false, digB.getD n ⟨#[]⟩⟩] = nsL (n + 1) := by simp [nsL, List.range_succ]
  rw [e, nsL_len, nsL_len] at h
  exact h
structure ChI (W0 W : World) (z : Int) (r0 r1 : Nat) (v0 v1 : Value) : Prop where
  bel : Below W0.heap.size W0 W
  cbx : BoxN W W0.heap.size 39 #[.string ⟨#[97]⟩, v0, .string ⟨#[98]⟩, v1]
  tbx : BoxN W (W0.heap.size + 1) 29 #[.int .i64 z, .string ⟨#[]⟩, .slice (some ⟨W0.heap.size, 0, none⟩) 2 2]
  own0 : W.ownsRow W0.heap.size 42 2 v0 r0 (flatK 2 r0 (clF (ksL r0)))
  own1 : W.ownsRow W0.heap.size 42 2 v1 r1 (flatK 2 r1 (clF (nsL r1)))
  apart : ∀ b, v0.ownBlock = some b → v1.ownBlock ≠ some b
section
variable {W0 W W' : World} {z : Int} {r0 r1 : Nat} {v0 v1 : Value}
theorem ChI.later (h : ChI W0 W z r0 r1 v0 v1) (hb : Below W.heap.size W W') : ChI W0 W' z r0 r1 v0 v1 :=
  ⟨h.bel.trans (hb.mono h.bel.size), h.cbx.below hb h.cbx.lt, h.tbx.below hb h.tbx.lt, own_later h.own0 hb, own_later h.own1 hb, h.apart⟩
theorem ChI.drew (h : ChI W0 W z r0 r1 v0 v1) : ChI W0 W.drew z r0 r1 v0 v1 := h.later (Below.refl _ _).drew
theorem ChI.push0 (h : ChI W0 W z r0 r1 v0 v1) {p cap m : Nat} (hm : m = r0 + 1) (hown : W'.ownsRow W0.heap.size 42 2 (.slice (some ⟨p, 0, none⟩) m cap) m (flatK 2 r0 (clF (ksL r0)) ++ [.bool false, .string ⟨#[107]⟩])) (hg : W.grownBy W' v0.ownBlock) (hat : v0.ownBlock = some p ∨ p = W.heap.size) :
    ChI W0 (W'.setCell ⟨W0.heap.size, 1, none⟩ (.slice (some ⟨p, 0, none⟩) m cap)) z (r0 + 1) r1 (.slice (some ⟨p, 0, none⟩) m cap) v1 := by
  subst hm
  have hsz := h.bel.size
  have e1 : v0.ownBlock ≠ some W0.heap.size := own_ne h.own0 h.cbx (by decide)
  have e2 : v0.ownBlock ≠ some (W0.heap.size + 1) := own_ne h.own0 h.tbx (by decide)
  have e3 : v1.ownBlock ≠ some W0.heap.size := own_ne h.own1 h.cbx (by decide)
  have hcb : BoxN W' W0.heap.size _ _ := h.cbx.grown hg (fun e => e1 e.symm)
  have htb : BoxN W' (W0.heap.size + 1) _ _ := h.tbx.grown hg (fun e => e2 e.symm)
  have hbl : Below W0.heap.size W0 W' := h.bel.trans ⟨hg.os, hg.tape, hg.output, hg.size, fun k hk => hg.block k (by omega) (fun e => by have := (h.own0.lt k e.symm).1; omega)⟩
  rw [ks_push] at hown
  have ep : p ≠ W0.heap.size := fun e => own_ne hown hcb (by decide) (by rw [e]; rfl)
  refine ⟨hbl.setCell (Nat.le_refl _) _, hcb.set 1 _, htb.other (by show W0.heap.size ≠ W0.heap.size + 1; omega) _, own_keepB hown fun b hb => ?_, own_keepB h.own1 fun b hb => ?_, fun b hb => ?_⟩
  · have : p = b := Option.some.inj hb
    exact Below.heap_setCell _ _ _ _ (by show b ≠ W0.heap.size; omega)
  · have h1 : b ≠ W0.heap.size := fun e => e3 (by rw [hb, e])
    rw [Below.heap_setCell _ _ _ _ h1]
    exact hg.block b (h.own1.lt b hb).2 (fun e => h.apart b e.symm hb)
  · have e4 : p = b := Option.some.inj hb
    subst e4
    rcases hat with h1 | h1
    · exact h.apart _ h1
    · intro e
      have := (h.own1.lt _ e).2
      omega
theorem ChI.push1 (h : ChI W0 W z r0 r1 v0 v1) {p cap m : Nat} (hm : m = r1 + 1) (hown : W'.ownsRow W0.heap.size 42 2 (.slice (some ⟨p, 0, none⟩) m cap) m (flatK 2 r1 (clF (nsL r1)) ++ [.bool false, .string (digB.getD r1 ⟨#[]⟩)])) (hg : W.grownBy W' v1.ownBlock) (hat : v1.ownBlock = some p ∨ p = W.heap.size) :
    ChI W0 (W'.setCell ⟨W0.heap.size, 3, none⟩ (.slice (some ⟨p, 0, none⟩) m cap)) z r0 (r1 + 1) v0 (.slice (some ⟨p, 0, none⟩) m cap) := by
  subst hm
  have hsz := h.bel.size
  have e1 : v1.ownBlock ≠ some W0.heap.size := own_ne h.own1 h.cbx (by decide)
  have e2 : v1.ownBlock ≠ some (W0.heap.size + 1) := own_ne h.own1 h.tbx (by decide)
  have e3 : v0.ownBlock ≠ some W0.heap.size := own_ne h.own0 h.cbx (by decide)
  have hcb : BoxN W' W0.heap.size _ _ := h.cbx.grown hg (fun e => e1 e.symm)
  have htb : BoxN W' (W0.heap.size + 1) _ _ := h.tbx.grown hg (fun e => e2 e.symm)
  have hbl : Below W0.heap.size W0 W' := h.bel.trans ⟨hg.os, hg.tape, hg.output, hg.size, fun k hk => hg.block k (by omega) (fun e => by have := (h.own1.lt k e.symm).1; omega)⟩
  rw [ns_push] at hown
  have ep : p ≠ W0.heap.size := fun e => own_ne hown hcb (by decide) (by rw [e]; rfl)
  refine ⟨hbl.setCell (Nat.le_refl _) _, hcb.set 3 _, htb.other (by show W0.heap.size ≠ W0.heap.size + 1; omega) _, own_keepB h.own0 fun b hb => ?_, own_keepB hown fun b hb => ?_, fun b hb => ?_⟩
  · have h1 : b ≠ W0.heap.size := fun e => e3 (by rw [hb, e])
    rw [Below.heap_setCell _ _ _ _ h1]
    exact hg.block b (h.own0.lt b hb).2 (fun e => h.apart b hb e.symm)
  · have : p = b := Option.some.inj hb
    exact Below.heap_setCell _ _ _ _ (by show b ≠ W0.heap.size; omega)
  · intro e
    have e4 : p = b := Option.some.inj e
    subst e4
    rcases hat with h1 | h1
    · exact h.apart _ hb h1
    · have := (h.own0.lt _ hb).2
      omega
end
def TabB (W : World) (lo hi n : Nat) (v : Value) : Prop :=
  ∃ v0 v1, v = .slice (some ⟨lo, 0, none⟩) 2 2 ∧ BoxN W lo 39 #[.string ⟨#[97]⟩, v0, .string ⟨#[98]⟩, v1] ∧ W.ownsRow lo 42 2 v0 n (flatK 2 n (clF (ksL n))) ∧ W.ownsRow lo 42 2 v1 n (flatK 2 n (clF (nsL n))) ∧
    (∀ b, v0.ownBlock = some b → v1.ownBlock ≠ some b) ∧ lo < hi ∧ (∀ b, v0.ownBlock = some b → b < hi) ∧ (∀ b, v1.ownBlock = some b → b < hi)
theorem ChI.built {W0 W : World} {z : Int} {n : Nat} {v0 v1 : Value} (h : ChI W0 W z n n v0 v1) : TabB W W0.heap.size W.heap.size n (.slice (some ⟨W0.heap.size, 0, none⟩) 2 2) :=
  ⟨v0, v1, rfl, h.cbx, h.own0, h.own1, h.apart, h.cbx.lt, fun b hb => (h.own0.lt b hb).2, fun b hb => (h.own1.lt b hb).2⟩
theorem TabB.keep {W W' : World} {lo hi n : Nat} {v : Value} (h : TabB W lo hi n v) (hk : ∀ b cur e, lo ≤ b → b < hi → W.heap[b]? = some (.cells cur e (0, 0)) → e = 42 ∨ e = 39 → W'.heap[b]? = W.heap[b]?) : TabB W' lo hi n v := by
  obtain ⟨v0, v1, rfl, hb, h0, h1, ha, hl, hh0, hh1⟩ := h
  have hrow : ∀ (u : Value) L, W.ownsRow lo 42 2 u n L → (∀ b, u.ownBlock = some b → b < hi) → W'.ownsRow lo 42 2 u n L := fun u L hu hlt => own_keepB hu fun b hbb => by
    rcases hu.2 with ⟨rfl, -⟩ | ⟨g, cap, cur, rfl, hg1, hg, -⟩
    · cases hbb
    · have e : g = b := Option.some.inj hbb
      subst e
      exact hk g cur _ hg1 (hlt g rfl) hg (.inl rfl)
  exact ⟨v0, v1, rfl, (hk lo _ _ (Nat.le_refl _) hl hb (.inr rfl)).trans hb, hrow v0 _ h0 hh0, hrow v1 _ h1 hh1, ha, hl, hh0, hh1⟩
theorem TabB.read {W : World} {lo hi n : Nat} {v : Value} (h : TabB W lo hi n v) : RdCo W (fun b => lo ≤ b ∧ b < hi) v (chC n) := by
  obtain ⟨v0, v1, rfl, hb, h0, h1, ha, hl, hh0, hh1⟩ := h
  refine ⟨fun i => if i = 0 then v0 else v1, ⟨_, _, rfl, Nat.le_refl _, by simp [maxLen], fun _ => ⟨lo, 0, rfl, ⟨Nat.le_refl _, hl⟩, fun i hi j hj => ?_⟩⟩, fun i hi => ?_⟩
  · rcases (show i = 0 ∨ i = 1 by simp [chC] at hi; omega) with rfl | rfl
    · rcases (show j = 0 ∨ j = 1 by omega) with rfl | rfl
      · exact hb.cell 0 rfl
      · exact hb.cell 1 rfl
    · rcases (show j = 0 ∨ j = 1 by omega) with rfl | rfl
      · exact hb.cell 2 rfl
      · exact hb.cell 3 rfl
  · rcases (show i = 0 ∨ i = 1 by simp [chC] at hi; omega) with rfl | rfl
    · show RdCl W _ v0 (ksL n)
      have h2 := h0
      rw [← ksL_len n] at h2
      rw [ksL_len] at h2
      have h3 : W.ownsRow lo 42 2 v0 (ksL n).length (flatK 2 (ksL n).length (clF (ksL n))) := by rw [ksL_len]; exact h0
      exact (inK_of_owns h3).more fun b hbb => ⟨(h0.lt b hbb).1, hh0 b hbb⟩
    · show RdCl W _ v1 (nsL n)
      have h3 : W.ownsRow lo 42 2 v1 (nsL n).length (flatK 2 (nsL n).length (clF (nsL n))) := by rw [nsL_len]; exact h1
      exact (inK_of_owns h3).more fun b hbb => ⟨(h1.lt b hbb).1, hh1 b hbb⟩
end Go.Proofs.YtfmlpaplnkohpaaGreatDoor

namespace Go.Proofs.YtfmlpaplnkohpaaGreatDoor
open Go.RowKit
theorem info_taC : (Tryz.prog.info? 29).map (fun i => (i.zero, i.size, i.bytes)) = some (some (.agg #[.int .i64 0, .string ⟨#[]⟩, .slice none 0 0]), 3, 48) := by kernel_rfl
def nulL : List Cl := [⟨false, ⟨#[49]⟩⟩, ⟨false, ⟨#[50]⟩⟩, ⟨false, ⟨#[51]⟩⟩, ⟨true, ⟨#[]⟩⟩]
def chB : List Ta := [⟨1, ⟨#[]⟩, chC 4⟩, ⟨2, ⟨#[]⟩, chC 3⟩, ⟨3, ⟨#[]⟩, chC 1⟩]
def chainL : List Ta := [⟨1, ⟨#[]⟩, [⟨⟨#[97]⟩, ksL 4⟩, ⟨⟨#[98]⟩, nulL⟩]⟩, ⟨2, ⟨#[]⟩, chC 3⟩, ⟨3, ⟨#[]⟩, chC 1⟩]
def nOf (i : Nat) : Nat := [4, 3, 1].getD i 0
theorem TabB.grown {W W' : World} {lo hi n base k : Nat} {v s : Value} {L : List Value} (h : TabB W lo hi n v) {m : Nat} (hs : W.ownsRow base 29 k s m L) (hg : W.grownBy W' s.ownBlock) (hh : hi ≤ W.heap.size) : TabB W' lo hi n v :=
  h.keep fun b cur e _ h2 hb he => hg.block b (by omega) fun eq => by
    rcases hs.2 with ⟨rfl, -⟩ | ⟨g, cap, cur', rfl, -, hg', -⟩
    · cases eq
    · have e2 : b = g := Option.some.inj eq
      subst e2
      rw [hb] at hg'
      injection hg' with h3
      injection h3 with h4 h5
      rw [h5] at he
      rcases he with h6 | h6 <;> exact absurd h6 (by decide)
theorem TabB.nulled {W : World} {lo hi c1 cap : Nat} {v : Value} {v0 : Value} (hb : BoxN W lo 39 #[.string ⟨#[97]⟩, v0, .string ⟨#[98]⟩, .slice (some ⟨c1, 0, none⟩) 4 cap]) (h0 : W.ownsRow lo 42 2 v0 4 (flatK 2 4 (clF (ksL 4)))) (h1 : W.ownsRow lo 42 2 (.slice (some ⟨c1, 0, none⟩) 4 cap) 4 (flatK 2 4 (clF (nsL 4))))
    (ha : v0.ownBlock ≠ some c1) (hl : lo < hi) (hh0 : ∀ b, v0.ownBlock = some b → b < hi) (hh1 : c1 < hi) (hv : v = .slice (some ⟨lo, 0, none⟩) 2 2) :
    RdCo ((W.setCell ⟨c1, 6, none⟩ (.bool true)).setCell ⟨c1, 7, none⟩ (.string ⟨#[]⟩)) (fun b => lo ≤ b ∧ b < hi) v [⟨⟨#[97]⟩, ksL 4⟩, ⟨⟨#[98]⟩, nulL⟩] := by
  subst hv
  have hne : lo ≠ c1 := fun e => own_ne h1 hb (by decide) (by rw [e]; rfl)
  have hb2 := (hb.other (p := ⟨c1, 6, none⟩) (fun e => hne e.symm) (.bool true)).other (p := ⟨c1, 7, none⟩) (fun e => hne e.symm) (.string ⟨#[]⟩)
  have h02 : ((W.setCell ⟨c1, 6, none⟩ (.bool true)).setCell ⟨c1, 7, none⟩ (.string ⟨#[]⟩)).ownsRow lo 42 2 v0 4 (flatK 2 4 (clF (ksL 4))) := own_keepB h0 fun b hbb => by
    have hne2 : b ≠ c1 := fun e => ha (by rw [hbb, e])
    rw [Below.heap_setCell _ _ _ _ hne2, Below.heap_setCell _ _ _ _ hne2]
  have h12 := ((h1.stored 6 (.bool true)).1.stored 7 (.string ⟨#[]⟩)).1
  have ef : ((flatK 2 4 (clF (nsL 4))).set 6 (.bool true)).set 7 (.string ⟨#[]⟩) = flatK 2 4 (clF nulL) := rfl
  rw [ef] at h12
  refine ⟨fun i => if i = 0 then v0 else .slice (some ⟨c1, 0, none⟩) 4 cap, ⟨_, _, rfl, Nat.le_refl _, by simp [maxLen], fun _ => ⟨lo, 0, rfl, ⟨Nat.le_refl _, hl⟩, fun i hi j hj => ?_⟩⟩, fun i hi => ?_⟩
  · rcases (show i = 0 ∨ i = 1 by simp at hi; omega) with rfl | rfl
    · rcases (show j = 0 ∨ j = 1 by omega) with rfl | rfl
      · exact hb2.cell 0 rfl
      · exact hb2.cell 1 rfl
    · rcases (show j = 0 ∨ j = 1 by omega) with rfl | rfl
      · exact hb2.cell 2 rfl
      · exact hb2.cell 3 rfl
  · rcases (show i = 0 ∨ i = 1 by simp at hi; omega) with rfl | rfl
    · exact (inK_of_owns (f := clF (ksL 4)) h02).more fun b hbb => ⟨(h02.lt b hbb).1, hh0 b hbb⟩
    · exact (inK_of_owns (f := clF nulL) h12).more fun b hbb => ⟨(h12.lt b hbb).1, (Option.some.inj hbb : c1 = b) ▸ hh1⟩
def ChainP (w : World) (e : Ending) (w' : World) : Prop := ∃ v, e = .returned v ∧ RdTa w' (News w w') v chainL ∧ Below w.heap.size w w'
end Go.Proofs.YtfmlpaplnkohpaaGreatDoor

namespace Go.Proofs
open Go.Shelf
def Tryz.layValid_ren : Go.Shelf.Ren := ⟨fun | 196 => 150 | 259 => 176 | n => n, fun | 9 => 9 | 4 => 4 | 3 => 3 | 5 => 5 | 12 => 12 | 119 => 187 | 0 => 0 | 46 => 122 | 139 => 190 | 138 => 189 | 53 => 153 | n => n, fun | 3 => 0 | 4 => 1 | n => n⟩
theorem Tryz.layValid : Go.Proofs.Lays.n196 Tryz.prog Tryz.layValid_ren := {
  mixed := by kernel_rfl
  f196 := Tryz.func150.trans (congrArg some (by kernel_rfl))
  f259 := Tryz.func176.trans (congrArg some (by kernel_rfl))
  t0 := Tryz.underlying0
  a0 := Tryz.isAgg0
  z0 := Tryz.sizeOf0
  v0 := Tryz.zeroValue0
  t3 := Tryz.underlying3
  a3 := Tryz.isAgg3
  z3 := Tryz.sizeOf3
  v3 := Tryz.zeroValue3
  t4 := Tryz.underlying4
  a4 := Tryz.isAgg4
  z4 := Tryz.sizeOf4
  v4 := Tryz.zeroValue4
  t5 := Tryz.underlying5
  a5 := Tryz.isAgg5
  z5 := Tryz.sizeOf5
  v5 := Tryz.zeroValue5
  t9 := Tryz.underlying9
  a9 := Tryz.isAgg9
  z9 := Tryz.sizeOf9
  v9 := Tryz.zeroValue9
  t12 := Tryz.underlying12
  a12 := Tryz.isAgg12
  z12 := Tryz.sizeOf12
  v12 := Tryz.zeroValue12
  t46 := Tryz.underlying122
  a46 := Tryz.isAgg122
  z46 := Tryz.sizeOf122
  v46 := Tryz.zeroValue122
  t53 := Tryz.underlying153
  a53 := Tryz.isAgg153
  z53 := Tryz.sizeOf153
  v53 := Tryz.zeroValue153
  t119 := Tryz.underlying187
  a119 := Tryz.isAgg187
  z119 := Tryz.sizeOf187
  t138 := Tryz.underlying189
  a138 := Tryz.isAgg189
  z138 := Tryz.sizeOf189
  v138 := Tryz.zeroValue189
  t139 := Tryz.underlying190
  a139 := Tryz.isAgg190
  z139 := Tryz.sizeOf190
  v139 := Tryz.zeroValue190
  g3 := by kernel_rfl
  g4 := by kernel_rfl }
end Go.Proofs

namespace Go.Proofs.YtfmlpaplnkohpaaGreatDoor
open Go.RowKit Go.Shelf
def Tabs (w : World) : Prop := Lib.Utf8Tabs 0 1 w
theorem Tabs.below {w w' : World} (h : Tabs w) (hb : Below w.heap.size w w') : Tabs w' := Utf8Tabs_below h hb
theorem text_Valid (s : ByteArray) (w : World) (hs : s.size ≤ 1099511627776) (hT : Tabs w) : Calls Tryz.prog 107 #[.string s] w (Ret w (.bool (Lib.validD s.data.toList))) := by
  have HV : Hid (∀ W, Tabs W → Calls Tryz.prog 150 #[.string s] W (Ret W (.bool (Lib.validD s.data.toList)))) := hid (fun W h => Any.utf8_ValidString Tryz.layValid s W (by omega) h)
  have HT := hid hT
  clear hT
  generalize Lib.validD s.data.toList = b at *
  go_enter Tryz.func107, Tryz.ntmps107
  go_wp2_with fail
  with_reducible refine (HV.out _ HT.out).mono ?_
  rintro e w1 ⟨rfl, hb⟩
  go_wp2
  go_ret
  exact ⟨rfl, hb⟩
theorem ref_Valid (s : ByteArray) (w : World) (hs : s.size ≤ 1099511627776) (hT : Tabs w) : Calls Tryz.prog 146 #[.string s] w (Ret w (.bool (Lib.validD s.data.toList))) := by
  have HV : Hid (∀ W, Tabs W → Calls Tryz.prog 150 #[.string s] W (Ret W (.bool (Lib.validD s.data.toList)))) := hid (fun W h => Any.utf8_ValidString Tryz.layValid s W (by omega) h)
  have HT := hid hT
  clear hT
  generalize Lib.validD s.data.toList = b at *
  go_enter Tryz.func146, Tryz.ntmps146
  go_wp2_with fail
  with_reducible refine (HV.out _ HT.out).mono ?_
  rintro e w1 ⟨rfl, hb1⟩
  have HB1 := hid hb1
  clear hb1
  go_wp2
  go_ret
  exact ⟨rfl, HB1.out⟩
end Go.Proofs.YtfmlpaplnkohpaaGreatDoor
