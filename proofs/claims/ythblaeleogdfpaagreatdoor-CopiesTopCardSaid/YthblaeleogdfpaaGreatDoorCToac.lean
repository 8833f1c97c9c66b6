/- Plain: how many elements two lists can pair, equal with equal. No program in sight. Plain: rows as texts, names, how columns are aligned, rows in common. No program in sight. Plain: a sorted list of texts without repetitions is the set of its texts; two sets with the same texts are one. No program in sight. Plain: tables with their rows and columns in another order have as much in common. No program in sight. Plain: sorted names. No program in sight. -/
import Derived.Lib.ItoaNum
import Derived.Test.YthblaeleogdfpaaGreatDoorCToab
import Derived.Lib.SlicesCompact
import Derived.Sort.EncStr
import Derived.Sort.Walk0
import Derived.Test.YthblaeleogdfpaaGreatDoorCToaa
set_option linter.unusedVariables false
set_option linter.unusedSimpArgs false
namespace Go.Proofs.YthblaeleogdfpaaGreatDoor
section
variable {α β : Type} [DecidableEq α] [DecidableEq β]
def comL : List α → List α → Nat
  | [], _ => 0
  | x :: A, B => if x ∈ B then comL A (B.erase x) + 1 else comL A B
theorem comL_nil (B : List α) : comL [] B = 0 := rfl
theorem comL_cons (x : α) (A B : List α) : comL (x :: A) B = if x ∈ B then comL A (B.erase x) + 1 else comL A B := rfl
theorem comL_perm_right : ∀ {A B B' : List α}, B.Perm B' → comL A B = comL A B'
 | [], _, _, _ => rfl
 | x :: A, B, B', h => by
  rw [comL_cons, comL_cons]
  by_cases hx : x ∈ B
  ·rw [if_pos hx, if_pos (h.mem_iff.1 hx), comL_perm_right (h.erase x)]
  ·rw [if_neg hx, if_neg (fun h' => hx (h.mem_iff.2 h')), comL_perm_right h]
theorem comL_swap (x y : α) (A B : List α) : comL (x :: y :: A) B = comL (y :: x :: A) B := by
 by_cases e : x = y
 ·subst e; rfl
 rw [comL_cons, comL_cons, comL_cons, comL_cons, comL_cons, comL_cons]
 have h1 : ∀ C : List α, (y ∈ C.erase x ↔ y ∈ C) := fun C => List.mem_erase_of_ne (Ne.symm e)
 have h2 : ∀ C : List α, (x ∈ C.erase y ↔ x ∈ C) := fun C => List.mem_erase_of_ne e
 by_cases hx : x ∈ B <;> by_cases hy : y ∈ B
 ·rw [if_pos hx, if_pos ((h1 B).2 hy), if_pos hy, if_pos ((h2 B).2 hx), List.erase_comm]
 ·rw [if_pos hx, if_neg (fun h => hy ((h1 B).1 h)), if_neg hy, if_pos hx]
 ·rw [if_neg hx, if_pos hy, if_pos hy, if_neg (fun h => hx ((h2 B).1 h))]
 ·rw [if_neg hx, if_neg hy, if_neg hy, if_neg hx]
theorem comL_perm_left {A A' : List α} (h : A.Perm A') : ∀ B : List α, comL A B = comL A' B := by
 induction h with
 | nil => intro B; rfl
 | cons x _ ih => intro B; rw [comL_cons, comL_cons, ih, ih]
 | swap x y l => intro B; exact comL_swap _ _ _ _
 | trans _ _ ih1 ih2 => intro B; rw [ih1, ih2]
theorem comL_le_left : ∀ A B : List α, comL A B ≤ A.length
 | [], _ => Nat.le_refl _
 | x :: A, B => by
  rw [comL_cons, List.length_cons]
  have h1 := comL_le_left A (B.erase x)
  have h2 := comL_le_left A B
  split <;> omega
theorem comL_map {f : α → β} : ∀ {A B : List α}, (∀ x ∈ A, ∀ y ∈ B, f x = f y → x = y) → comL (A.map f) (B.map f) = comL A B
 | [], _, _ => rfl
 | x :: A, B, h => by
  have hm : f x ∈ B.map f ↔ x ∈ B := by
   constructor
   ·intro h'
    obtain ⟨y, hy, e⟩ := List.mem_map.1 h'
    rw [h x (by simp) y hy e.symm]
    exact hy
   ·intro h'; exact List.mem_map_of_mem h'
  rw [List.map_cons, comL_cons, comL_cons]
  by_cases hx : x ∈ B
  ·rw [if_pos (hm.2 hx), if_pos hx]
   have hp : ((B.map f).erase (f x)).Perm ((B.erase x).map f) := by
    have h1 : (B.map f).Perm (f x :: (B.erase x).map f) := (List.perm_cons_erase hx).map f
    have h2 := h1.erase (f x)
    rwa [List.erase_cons_head] at h2
   rw [comL_perm_right hp, comL_map (A := A) (B := B.erase x) (fun a ha b hb => h a (by simp [ha]) b (List.mem_of_mem_erase hb))]
  ·rw [if_neg (fun h' => hx (hm.1 h')), if_neg hx, comL_map (A := A) (B := B) (fun a ha b hb => h a (by simp [ha]) b hb)]
end
def minSum (N : Nat) (f g : Nat → Nat) : Nat := ((List.range N).map fun i => min (f i) (g i)).sum
end Go.Proofs.YthblaeleogdfpaaGreatDoor
namespace Go.Proofs.YthblaeleogdfpaaGreatDoor
open Go.RowKit
instance clEq : DecidableEq Cl := fun a b =>
  if h : a.null = b.null ∧ a.text = b.text then .isTrue (by cases a; cases b; simp at h; simp [h]) else .isFalse (by rintro rfl; exact h ⟨rfl, rfl⟩)
def encC (c : Cl) : List UInt8 := if c.null = true then [45] else Lib.decDigits c.text.size ++ [58] ++ c.text.data.toList
def encR (r : List Cl) : List UInt8 := r.flatMap encC
def Cell1 (c : Cl) : Prop := (c.null = true → c.text = ⟨#[]⟩) ∧ c.text.size ≤ 1024
theorem digits_fact : ∀ n, n < 1025 → (∀ d ∈ Lib.decDigits n, d ≠ 58 ∧ d ≠ 45) ∧ Lib.decDigits n ≠ [] ∧ (Lib.decDigits n).foldl (fun a d => a * 10 + (d.toNat - 48)) 0 = n := by decide +kernel
theorem digits_inj {m n : Nat} (hm : m < 1025) (hn : n < 1025) (h : Lib.decDigits m = Lib.decDigits n) : m = n := by
 rw [← (digits_fact m hm).2.2, ← (digits_fact n hn).2.2, h]
theorem split_colon : ∀ {a b x y : List UInt8}, (∀ d ∈ a, d ≠ 58) → (∀ d ∈ b, d ≠ 58) → a ++ 58 :: x = b ++ 58 :: y → a = b ∧ x = y
 | [], [], _, _, _, _, h => ⟨rfl, by simpa using h⟩
 | [], d :: b, _, _, _, hb, h => by
  simp at h
  exact absurd h.1.symm (hb d (by simp))
 | d :: a, [], _, _, ha, _, h => by
  simp at h
  exact absurd h.1 (ha d (by simp))
 | d :: a, e :: b, x, y, ha, hb, h => by
  simp at h
  obtain ⟨h1, h2⟩ := split_colon (fun c hc => ha c (by simp [hc])) (fun c hc => hb c (by simp [hc])) h.2
  exact ⟨by rw [h.1, h1], h2⟩
theorem encC_inj {c d : Cl} {x y : List UInt8} (hc : Cell1 c) (hd : Cell1 d) (h : encC c ++ x = encC d ++ y) : c = d ∧ x = y := by
 obtain ⟨cn, ct⟩ := c
 obtain ⟨dn, dt⟩ := d
 obtain ⟨hc1, hc2⟩ := hc
 obtain ⟨hd1, hd2⟩ := hd
 simp only at hc1 hc2 hd1 hd2
 have fc := digits_fact ct.size (by omega)
 have fd := digits_fact dt.size (by omega)
 have hhead : ∀ {l : List UInt8} {z : List UInt8}, (∀ e ∈ l, e ≠ 58 ∧ e ≠ 45) → l ≠ [] → ∀ {u : List UInt8}, 45 :: z = l ++ u → False := fun {l z} h1 h2 {u} e => by
  cases l with
  | nil => exact h2 rfl
  | cons a l =>
   simp at e
   exact (h1 a (by simp)).2 e.1.symm
 unfold encC at h
 simp only at h
 cases cn <;> cases dn
 ·rw [if_neg Bool.false_ne_true, if_neg Bool.false_ne_true, List.append_assoc, List.append_assoc, List.append_assoc, List.append_assoc, List.singleton_append, List.singleton_append] at h
  obtain ⟨h1, h2⟩ := split_colon (fun e he => (fc.1 e he).1) (fun e he => (fd.1 e he).1) h
  have hs := digits_inj (by omega) (by omega) h1
  have hl : ct.data.toList.length = dt.data.toList.length := by rw [Array.length_toList, Array.length_toList]; exact hs
  obtain ⟨h3, h4⟩ := List.append_inj h2 hl
  obtain ⟨⟨ct⟩⟩ := ct
  obtain ⟨⟨dt⟩⟩ := dt
  simp only at h3
  subst h3
  exact ⟨rfl, h4⟩
 ·rw [if_neg Bool.false_ne_true, if_pos rfl, List.append_assoc, List.append_assoc] at h
  exact absurd h.symm (fun e => hhead fc.1 fc.2.1 e)
 ·rw [if_neg Bool.false_ne_true, if_pos rfl, List.append_assoc, List.append_assoc] at h
  exact absurd h (fun e => hhead fd.1 fd.2.1 e)
 ·rw [if_pos rfl, if_pos rfl] at h
  rw [hc1 rfl, hd1 rfl]
  exact ⟨rfl, by simpa using h⟩
theorem encR_inj : ∀ {r s : List Cl}, r.length = s.length → (∀ c ∈ r, Cell1 c) → (∀ c ∈ s, Cell1 c) → encR r = encR s → r = s
 | [], [], _, _, _, _ => rfl
 | c :: r, d :: s, hl, hr, hs, h => by
  unfold encR at h
  rw [List.flatMap_cons, List.flatMap_cons] at h
  obtain ⟨h1, h2⟩ := encC_inj (hr c (by simp)) (hs d (by simp)) h
  rw [h1, encR_inj (by simpa using hl) (fun e he => hr e (by simp [he])) (fun e he => hs e (by simp [he])) h2]
def namesL (xs : List Co) : List ByteArray := xs.map Co.name
def idxP : List ByteArray → ByteArray → Nat
  | [], _ => 0
  | x :: l, s => if x = s then 0 else idxP l s + 1
theorem idxP_lt : ∀ {l : List ByteArray} {s : ByteArray}, s ∈ l → idxP l s < l.length
 | x :: l, s, h => by
  unfold idxP
  by_cases e : x = s
  ·rw [if_pos e]; simp
  ·rw [if_neg e]
   have := idxP_lt (l := l) (s := s) (by rcases List.mem_cons.1 h with h | h; exact absurd h.symm e; exact h)
   simp; omega
theorem idxP_get : ∀ {l : List ByteArray} {s : ByteArray}, s ∈ l → l.getD (idxP l s) ⟨#[]⟩ = s
 | x :: l, s, h => by
  unfold idxP
  by_cases e : x = s
  ·rw [if_pos e]; exact e
  ·rw [if_neg e, List.getD_cons_succ]
   exact idxP_get (by rcases List.mem_cons.1 h with h | h; exact absurd h.symm e; exact h)
theorem idxP_nodup : ∀ {l : List ByteArray} (_ : l.Nodup) {i : Nat}, i < l.length → idxP l (l.getD i ⟨#[]⟩) = i
 | x :: l, hn, 0, _ => by simp [idxP]
 | x :: l, hn, i + 1, h => by
  have hi : i < l.length := by simpa using h
  rw [List.getD_cons_succ]
  unfold idxP
  have hm : l.getD i ⟨#[]⟩ ∈ l := by simp [List.getD, hi]
  rw [if_neg (fun e : x = l.getD i ⟨#[]⟩ => (List.nodup_cons.1 hn).1 (by rw [e]; exact hm)), idxP_nodup (List.nodup_cons.1 hn).2 hi]
def idxN (xs : List Co) (s : ByteArray) : Nat := idxP (namesL xs) s
theorem namesL_getD (xs : List Co) (i : Nat) : (namesL xs).getD i ⟨#[]⟩ = (xs.getD i Co.z).name := by
 unfold namesL
 rw [List.getD, List.getElem?_map]
 simp only [List.getD]
 cases xs[i]? <;> rfl
def alignL (a b : List Co) : List Nat := (namesL a).map (idxN b)
def Aligns (a b : List Co) : Prop := (namesL a).Nodup ∧ (namesL b).Nodup ∧ (namesL a).Perm (namesL b)
instance (a b : List Co) : Decidable (Aligns a b) := by unfold Aligns; exact inferInstance
def cellAt (xs : List Co) (k i : Nat) : Cl := (xs.getD k Co.z).cells.getD i Cl.z
def rowAt (xs : List Co) (al : List Nat) (i : Nat) : List Cl := al.map fun k => cellAt xs k i
def rowsOf (xs : List Co) (al : List Nat) (n : Nat) : List (List Cl) := (List.range n).map (rowAt xs al)
def ownL (xs : List Co) : List Nat := List.range xs.length
def rowsN (xs : List Co) : Nat := (xs.getD 0 Co.z).cells.length
def commonL (a b : List Co) : Nat := if Aligns a b then comL (rowsOf a (ownL a) (rowsN a)) (rowsOf b (alignL a b) (rowsN b)) else 0
theorem Aligns.symm {a b : List Co} (h : Aligns a b) : Aligns b a := ⟨h.2.1, h.1, h.2.2.symm⟩
theorem Aligns.len {a b : List Co} (h : Aligns a b) : a.length = b.length := by
 have := h.2.2.length_eq
 simpa [namesL] using this
theorem alignL_len (a b : List Co) : (alignL a b).length = a.length := by simp [alignL, namesL]
theorem idxN_lt {xs : List Co} {s : ByteArray} (h : s ∈ namesL xs) : idxN xs s < xs.length := by
 have := idxP_lt h
 simpa [idxN, namesL] using this
theorem idxN_name {xs : List Co} {s : ByteArray} (h : s ∈ namesL xs) : (xs.getD (idxN xs s) Co.z).name = s := by
 rw [← namesL_getD]
 exact idxP_get h
theorem idxN_at {xs : List Co} (hn : (namesL xs).Nodup) {i : Nat} (hi : i < xs.length) : idxN xs (xs.getD i Co.z).name = i := by
 rw [← namesL_getD]
 exact idxP_nodup hn (by simpa [namesL] using hi)
theorem name_mem {xs : List Co} {i : Nat} (hi : i < xs.length) : (xs.getD i Co.z).name ∈ namesL xs := by
 have e : xs.getD i Co.z = xs[i] := by simp [List.getD, hi]
 rw [e]
 exact List.mem_map_of_mem (List.getElem_mem hi)
theorem alignL_at {a b : List Co} {i : Nat} (hi : i < a.length) : (alignL a b).getD i 0 = idxN b (a.getD i Co.z).name := by
 simp [alignL, namesL, List.getD, hi]
def perL (p : List Nat) (r : List Cl) : List Cl := p.map fun k => r.getD k Cl.z
theorem perL_row {xs : List Co} {al p : List Nat} {i : Nat} (h : ∀ k ∈ p, k < al.length) : perL p (rowAt xs al i) = rowAt xs (p.map fun k => al.getD k 0) i := by
 unfold perL rowAt
 rw [List.map_map]
 refine List.map_congr_left fun k hk => ?_
 have := h k hk
 simp [List.getD, this]
theorem row_ext {xs : List Co} {al : List Nat} {r s : List Cl} (hr : r.length = al.length) (hs : s.length = al.length) (h : ∀ k, k < al.length → r.getD k Cl.z = s.getD k Cl.z) : r = s := by
 apply List.ext_getElem (by omega)
 intro k h1 h2
 have := h k (by omega)
 simpa [List.getD, h1, h2] using this
theorem align_back {a b : List Co} (h : Aligns a b) : ∀ {i : Nat}, i < a.length → (alignL b a).getD ((alignL a b).getD i 0) 0 = i ∧ (alignL a b).getD i 0 < b.length := by
 intro i hi
 have hm : (a.getD i Co.z).name ∈ namesL b := h.2.2.mem_iff.1 (name_mem hi)
 have hlt := idxN_lt hm
 rw [alignL_at hi, alignL_at hlt, idxN_name hm, idxN_at h.1 hi]
 exact ⟨rfl, hlt⟩
theorem rowsOf_per {xs : List Co} {al p : List Nat} {n : Nat} (h : ∀ k ∈ p, k < al.length) : (rowsOf xs al n).map (perL p) = rowsOf xs (p.map fun k => al.getD k 0) n := by
 unfold rowsOf
 rw [List.map_map]
 exact List.map_congr_left fun i _ => perL_row h
theorem rowAt_len (xs : List Co) (al : List Nat) (i : Nat) : (rowAt xs al i).length = al.length := by simp [rowAt]
theorem rowsOf_len (xs : List Co) (al : List Nat) (n : Nat) : (rowsOf xs al n).length = n := by simp [rowsOf]
theorem mem_rowsOf {xs : List Co} {al : List Nat} {n : Nat} {r : List Cl} (h : r ∈ rowsOf xs al n) : ∃ i, i < n ∧ r = rowAt xs al i := by
 obtain ⟨i, hi, rfl⟩ := List.mem_map.1 h
 exact ⟨i, List.mem_range.1 hi, rfl⟩
theorem com_per {xs ys : List Co} {al bl p q : List Nat} {m n k : Nat} (ha : al.length = k) (hb : bl.length = k) (hp : ∀ i ∈ p, i < k) (hq : q.length = k) (hpq : ∀ i, i < k → p.getD (q.getD i 0) 0 = i ∧ q.getD i 0 < p.length) :
  comL (rowsOf xs (p.map fun i => al.getD i 0) m) (rowsOf ys (p.map fun i => bl.getD i 0) n) = comL (rowsOf xs al m) (rowsOf ys bl n) := by
 rw [← rowsOf_per (fun i hi => by rw [ha]; exact hp i hi), ← rowsOf_per (fun i hi => by rw [hb]; exact hp i hi)]
 refine comL_map fun r hr s hs e => ?_
 obtain ⟨i, -, rfl⟩ := mem_rowsOf hr
 obtain ⟨j, -, rfl⟩ := mem_rowsOf hs
 refine row_ext (xs := xs) (al := al) (rowAt_len _ _ _) (by rw [rowAt_len]; omega) fun c hc => ?_
 rw [ha] at hc
 obtain ⟨h1, h2⟩ := hpq c hc
 have e2 : ∀ r : List Cl, (perL p r).getD (q.getD c 0) Cl.z = r.getD c Cl.z := fun r => by
  have h3 : p.getD (q.getD c 0) 0 = p[q.getD c 0] := by rw [List.getD, List.getElem?_eq_getElem h2, Option.getD_some]
  rw [h3] at h1
  unfold perL
  rw [List.getD, List.getElem?_map, List.getElem?_eq_getElem h2]
  simp only [Option.map_some, Option.getD_some]
  rw [h1]
 rw [← e2, ← e2, e]
end Go.Proofs.YthblaeleogdfpaaGreatDoor

namespace Go.Proofs.YthblaeleogdfpaaGreatDoor
open Go.Lib
theorem sl_lt (a b : ByteArray) : sl a b = decide (a.toList < b.toList) := by unfold sl; exact bytesLess_eq _ _
theorem asc_unique : ∀ {xs ys : List ByteArray}, Asc xs → Asc ys → (∀ x, x ∈ xs ↔ x ∈ ys) → xs = ys
 | [], [], _, _, _ => rfl
 | [], y :: ys, _, _, h => by have := (h y).2 (by simp); simp at this
 | x :: xs, [], _, _, h => by have := (h x).1 (by simp); simp at this
 | x :: xs, y :: ys, hx, hy, h => by
  have hx' := List.pairwise_cons.1 hx
  have hy' := List.pairwise_cons.1 hy
  have hxy : x = y := by
   rcases List.mem_cons.1 ((h x).1 (by simp)) with e | h1
   ·exact e
   ·rcases List.mem_cons.1 ((h y).2 (by simp)) with e | h2
    ·exact e.symm
    ·have h3 := sl_trans (hy'.1 x h1) (hx'.1 y h2)
     rw [sl_irrefl] at h3
     cases h3
  subst hxy
  have : xs = ys := asc_unique hx'.2 hy'.2 (fun z => by
   constructor
   ·intro hz
    rcases List.mem_cons.1 ((h z).1 (by simp [hz])) with e | h1
    ·subst e
     have h3 := hx'.1 z hz
     rw [sl_irrefl] at h3
     cases h3
    ·exact h1
   ·intro hz
    rcases List.mem_cons.1 ((h z).2 (by simp [hz])) with e | h1
    ·subst e
     have h3 := hy'.1 z hz
     rw [sl_irrefl] at h3
     cases h3
    ·exact h1)
  rw [this]
theorem put1_mem_iff {xs : List ByteArray} {s x : ByteArray} : x ∈ put1 xs s ↔ x = s ∨ x ∈ xs := by
 refine ⟨put1_mem, fun h => ?_⟩
 have hk := before_le s xs
 unfold put1
 simp only
 split
 ·rw [List.mem_append, List.mem_cons]
  rcases h with rfl | h
  ·exact .inr (.inl rfl)
  ·rw [← List.take_append_drop (before s xs) xs, List.mem_append] at h
   rcases h with h | h
   ·exact .inl h
   ·exact .inr (.inr h)
 ·rename_i hc
  rcases h with rfl | h
  ·have h1 : before x xs ≠ xs.length := fun e => hc (.inl e)
   have h2 : xs.getD (before x xs) ⟨#[]⟩ = x := by
    apply Classical.byContradiction
    exact fun e => hc (.inr e)
   have h3 : before x xs < xs.length := by omega
   rw [List.getD, List.getElem?_eq_getElem h3] at h2
   simp at h2
   rw [← h2]
   exact List.getElem_mem _
  ·exact h
theorem foldl_put1_mem (l : List ByteArray) : ∀ (acc : List ByteArray) (x : ByteArray), x ∈ l.foldl put1 acc ↔ x ∈ acc ∨ x ∈ l := by
 induction l with
 | nil => simp
 | cons a l ih =>
  intro acc x
  rw [List.foldl_cons, ih, put1_mem_iff, List.mem_cons]
  constructor
  ·rintro ((h | h) | h)
   ·exact .inr (.inl h)
   ·exact .inl h
   ·exact .inr (.inr h)
  ·rintro (h | h | h)
   ·exact .inl (.inr h)
   ·exact .inl (.inl h)
   ·exact .inr h
theorem setOfL_mem_iff (l : List ByteArray) (x : ByteArray) : x ∈ setOfL l ↔ x ∈ l := by
 unfold setOfL
 rw [foldl_put1_mem]
 simp
theorem compactUpTo_spec (d : Array (List UInt8)) (hs : ∀ i j, i < j → j < d.size → d[i]! ≤ d[j]!) : ∀ m, m ≤ d.size →
  (compactUpTo d m).Pairwise (· < ·) ∧ (∀ y ∈ compactUpTo d m, ∃ i, i < m ∧ y = d[i]!) ∧ (∀ i, i < m → d[i]! ∈ compactUpTo d m) := by
 intro m
 induction m with
 | zero => intro _; exact ⟨by simp [compactUpTo], by simp [compactUpTo], fun i h => by omega⟩
 | succ m ih =>
  intro hm
  obtain ⟨h1, h2, h3⟩ := ih (by omega)
  rw [compactUpTo_succ]
  by_cases hk : keeps d m = true
  ·rw [if_pos hk]
   refine ⟨?_, ?_, ?_⟩
   ·rw [List.pairwise_append]
    refine ⟨h1, List.pairwise_singleton _ _, fun y hy z hz => ?_⟩
    rw [List.mem_singleton] at hz
    subst hz
    obtain ⟨i, hi, rfl⟩ := h2 y hy
    have hne : d[m]! ≠ d[m - 1]! := by
     unfold keeps at hk
     rcases of_decide_eq_true hk with h | h
     ·omega
     ·exact h
    have hle : d[m - 1]! ≤ d[m]! := hs _ _ (by omega) (by omega)
    have hlt : d[m - 1]! < d[m]! := Classical.byContradiction fun h => hne (List.le_antisymm (show d[m]! ≤ d[m - 1]! from h) hle)
    rcases Nat.lt_or_ge i (m - 1) with h | h
    ·exact List.lt_of_le_of_lt (hs i (m - 1) h (by omega)) hlt
    ·obtain rfl : i = m - 1 := by omega
     exact hlt
   ·intro y hy
    rcases List.mem_append.1 hy with hy | hy
    ·obtain ⟨i, hi, e⟩ := h2 y hy
     exact ⟨i, by omega, e⟩
    ·exact ⟨m, by omega, by simpa using hy⟩
   ·intro i hi
    rw [List.mem_append]
    rcases Nat.lt_or_ge i m with h | h
    ·exact .inl (h3 i h)
    ·obtain rfl : i = m := by omega
     exact .inr (by simp)
  ·rw [if_neg hk, List.append_nil]
   refine ⟨h1, fun y hy => ?_, fun i hi => ?_⟩
   ·obtain ⟨i, hi, e⟩ := h2 y hy
    exact ⟨i, by omega, e⟩
   ·rcases Nat.lt_or_ge i m with h | h
    ·exact h3 i h
    ·obtain rfl : i = m := by omega
     have hn : ¬ (i = 0 ∨ d[i]! ≠ d[i - 1]!) := fun e => hk (by unfold keeps; exact decide_eq_true e)
     have he : d[i]! = d[i - 1]! := Classical.byContradiction fun e => hn (.inr e)
     rw [he]
     exact h3 (i - 1) (by have : i ≠ 0 := fun e => hn (.inl e); omega)
def bytesOf (l : List UInt8) : ByteArray := ⟨l.toArray⟩
def listOf (a : ByteArray) : List UInt8 := a.data.toList
theorem bytesOf_listOf (a : ByteArray) : bytesOf (listOf a) = a := by cases a; rfl
theorem listOf_bytesOf (l : List UInt8) : listOf (bytesOf l) = l := by simp [listOf, bytesOf]
theorem compact_sorted (xs : List ByteArray) : (compact ((xs.map listOf).mergeSort fun x y => decide (x ≤ y))).map bytesOf = setOfL xs := by
 generalize hZ : (xs.map listOf).mergeSort (fun x y => decide (x ≤ y)) = zs
 have hperm : zs.Perm (xs.map listOf) := by rw [← hZ]; exact List.mergeSort_perm _ _
 have hsort : zs.Pairwise (fun x y => x ≤ y) := by
  rw [← hZ]
  have := List.pairwise_mergeSort (le := fun (x y : List UInt8) => decide (x ≤ y)) (fun a b c h1 h2 => by
   simp only [decide_eq_true_eq] at *
   exact List.le_trans h1 h2) (fun a b => by
   simp only [Bool.or_eq_true, decide_eq_true_eq]
   exact List.le_total a b) (xs.map listOf)
  exact this.imp (fun h => by simpa using h)
 have hs : ∀ i j, i < j → j < zs.toArray.size → zs.toArray[i]! ≤ zs.toArray[j]! := by
  intro i j hij hj
  have hj' : j < zs.length := by simpa using hj
  rw [getElem!_pos zs.toArray i (by simp; omega), getElem!_pos zs.toArray j (by simpa using hj')]
  simpa using List.pairwise_iff_getElem.1 hsort i j (by omega) hj' hij
 obtain ⟨h1, h2, h3⟩ := compactUpTo_spec zs.toArray hs zs.length (by simp)
 refine asc_unique ?_ (setOfL_asc xs) ?_
 ·unfold Asc
  rw [List.pairwise_map]
  refine h1.imp (fun {a b} h => ?_)
  rw [sl_lt, toList_data, toList_data]
  exact decide_eq_true (by simpa [bytesOf] using h)
 ·intro x
  rw [setOfL_mem_iff, List.mem_map]
  constructor
  ·rintro ⟨y, hy, rfl⟩
   obtain ⟨i, hi, rfl⟩ := h2 y hy
   have : zs.toArray[i]! ∈ zs := by rw [getElem!_pos zs.toArray i (by simpa using hi)]; simp
   obtain ⟨z, hz, e⟩ := List.mem_map.1 (hperm.mem_iff.1 this)
   rw [← e, bytesOf_listOf]
   exact hz
  ·intro hx
   have : listOf x ∈ zs := hperm.mem_iff.2 (List.mem_map.2 ⟨x, hx, rfl⟩)
   obtain ⟨i, hi, e⟩ := List.mem_iff_getElem.1 this
   refine ⟨listOf x, ?_, bytesOf_listOf x⟩
   have h4 := h3 i hi
   rw [getElem!_pos zs.toArray i (by simpa using hi)] at h4
   rw [← e]
   simpa [compact] using h4
theorem compact_len (xs : List ByteArray) : (compact ((xs.map listOf).mergeSort fun x y => decide (x ≤ y))).length = (setOfL xs).length := by
 rw [← compact_sorted, List.length_map]
end Go.Proofs.YthblaeleogdfpaaGreatDoor

namespace Go.Proofs.YthblaeleogdfpaaGreatDoor
open Go.RowKit
theorem perm_of_sub {α : Type} [DecidableEq α] : ∀ {l m : List α}, l.Nodup → (∀ x ∈ l, x ∈ m) → m.length ≤ l.length → l.Perm m
 | [], m, _, _, h => by
  rw [List.eq_nil_of_length_eq_zero (l := m) (by simpa using h)]
 | x :: l, m, hn, hs, h => by
  have hx := hs x (by simp)
  have hp := List.perm_cons_erase hx
  have hl : m.length = (m.erase x).length + 1 := by rw [hp.length_eq]; rfl
  have hn2 := List.nodup_cons.1 hn
  refine ((perm_of_sub hn2.2 (fun y hy => ?_) (by rw [List.length_cons] at h; omega)).cons x).trans hp.symm
  exact (List.mem_erase_of_ne (fun e : y = x => hn2.1 (by rw [← e]; exact hy))).2 (hs y (by simp [hy]))
structure Turned (a b : List Co) (n : Nat) (p q : List Nat) (s : Nat → Nat) : Prop where
  len : b.length = a.length
  plen : p.length = a.length
  qlen : q.length = a.length
  plt : ∀ i ∈ p, i < a.length
  back : ∀ i, i < a.length → p.getD (q.getD i 0) 0 = i ∧ q.getD i 0 < a.length
  names : namesL b = p.map fun k => (a.getD k Co.z).name
  cells : ∀ k i, k < a.length → i < n → cellAt b k i = cellAt a (p.getD k 0) (s i)
  rows : ((List.range n).map s).Perm (List.range n)
section
variable {a b : List Co} {n : Nat} {p q : List Nat} {s : Nat → Nat}
theorem Turned.pp (h : Turned a b n p q s) : p.Perm (List.range a.length) := by
 have hsub : ∀ i ∈ List.range a.length, i ∈ p := fun i hi => by
  obtain ⟨h1, h2⟩ := h.back i (List.mem_range.1 hi)
  have h3 : q.getD i 0 < p.length := by rw [h.plen]; exact h2
  have : p.getD (q.getD i 0) 0 = p[q.getD i 0] := by rw [List.getD, List.getElem?_eq_getElem h3, Option.getD_some]
  rw [← h1, this]
  exact List.getElem_mem h3
 exact (perm_of_sub List.nodup_range hsub (by rw [h.plen, List.length_range]; exact Nat.le_refl _)).symm
theorem Turned.namesP (h : Turned a b n p q s) : (namesL b).Perm (namesL a) := by
 rw [h.names]
 refine (h.pp.map _).trans (List.Perm.of_eq ?_)
 apply List.ext_getElem
 ·simp [namesL]
 ·intro i h1 h2
  have hi : i < a.length := by simpa using h1
  simp [namesL, List.getD, hi]
theorem Turned.own (h : Turned a b n p q s) : (rowsOf b (ownL b) n).Perm (rowsOf a p n) := by
 have e : rowsOf b (ownL b) n = ((List.range n).map s).map (rowAt a p) := by
  unfold rowsOf
  rw [List.map_map]
  refine List.map_congr_left fun i hi => ?_
  refine row_ext (xs := a) (al := p) (by rw [rowAt_len]; simp [ownL, h.len, h.plen]) (rowAt_len _ _ _) fun k hk => ?_
  have hka : k < a.length := by rw [← h.plen]; exact hk
  have h1 := h.cells k i hka (List.mem_range.1 hi)
  have e1 : (rowAt b (ownL b) i).getD k Cl.z = cellAt b k i := by simp [rowAt, ownL, List.getD, h.len, hka]
  have e2 : (rowAt a p (s i)).getD k Cl.z = cellAt a (p.getD k 0) (s i) := by simp [rowAt, List.getD, hk]
  rw [e1, Function.comp, e2, h1]
 rw [e]
 exact h.rows.map _
theorem Turned.other (h : Turned a b n p q s) (h1 : rowsN a = n) (h2 : rowsN b = n) (c : List Co) : commonL b c = commonL a c := by
 unfold commonL
 have hP := h.namesP
 by_cases hc : Aligns a c
 ·have hbc : Aligns b c := ⟨hP.nodup_iff.2 hc.1, hc.2.1, hP.trans hc.2.2⟩
  rw [if_pos hc, if_pos hbc, h1, h2, comL_perm_left h.own]
  have e1 : alignL b c = p.map fun k => (alignL a c).getD k 0 := by
   unfold alignL
   rw [h.names, List.map_map]
   refine List.map_congr_left fun k hk => ?_
   have hka := h.plt k hk
   have := alignL_at (b := c) hka
   unfold alignL at this
   rw [this]
   rfl
  have e2 : p = p.map fun k => (ownL a).getD k 0 := by
   have : ∀ k ∈ p, (ownL a).getD k 0 = k := fun k hk => by simp [ownL, List.getD, h.plt k hk]
   symm
   exact (List.map_congr_left this).trans (List.map_id' _)
  have key := com_per (xs := a) (ys := c) (al := ownL a) (bl := alignL a c) (p := p) (q := q) (m := n) (n := rowsN c) (k := a.length) (by simp [ownL]) (alignL_len _ _) h.plt h.qlen (fun i hi => ⟨(h.back i hi).1, by rw [h.plen]; exact (h.back i hi).2⟩)
  rw [← e1, ← e2] at key
  exact key
 ·rw [if_neg hc, if_neg (fun h' => hc ⟨hP.nodup_iff.1 h'.1, h'.2.1, hP.symm.trans h'.2.2⟩)]
end
def rotL (k s : Nat) : List Nat := (List.range k).map fun i => (i + s) % k
def rotB (k s : Nat) : List Nat := (List.range k).map fun i => (i + (k - s % k)) % k
end Go.Proofs.YthblaeleogdfpaaGreatDoor
namespace Go.Proofs.YthblaeleogdfpaaGreatDoor
open Go.RowKit
def sortL (xs : List ByteArray) : List ByteArray := ((xs.map listOf).mergeSort fun x y => decide (x ≤ y)).map bytesOf
theorem sortL_perm (xs : List ByteArray) : (sortL xs).Perm xs := by
 have h : ((xs.map listOf).mergeSort fun x y => decide (x ≤ y)).Perm (xs.map listOf) := List.mergeSort_perm _ _
 have h2 := h.map bytesOf
 have e : (xs.map listOf).map bytesOf = xs := by
  rw [List.map_map]
  exact (List.map_congr_left fun x _ => bytesOf_listOf x).trans (List.map_id' _)
 rw [e] at h2
 exact h2
theorem sortL_len (xs : List ByteArray) : (sortL xs).length = xs.length := (sortL_perm xs).length_eq
theorem sortL_pair (xs : List ByteArray) : ((xs.map listOf).mergeSort fun x y => decide (x ≤ y)).Pairwise (fun x y => x ≤ y) := by
 have := List.pairwise_mergeSort (le := fun (x y : List UInt8) => decide (x ≤ y)) (fun a b c h1 h2 => by
  simp only [decide_eq_true_eq] at *
  exact List.le_trans h1 h2) (fun a b => by
  simp only [Bool.or_eq_true, decide_eq_true_eq]
  exact List.le_total a b) (xs.map listOf)
 exact this.imp (fun h => by simpa using h)
theorem sortL_eq {xs ys : List ByteArray} : sortL xs = sortL ys ↔ xs.Perm ys := by
 constructor
 ·intro h
  exact (sortL_perm xs).symm.trans ((List.Perm.of_eq h).trans (sortL_perm ys))
 ·intro h
  unfold sortL
  congr 1
  refine List.Perm.eq_of_pairwise (le := fun x y : List UInt8 => x ≤ y) (fun a b _ _ h1 h2 => List.le_antisymm h1 h2) (sortL_pair xs) (sortL_pair ys) ?_
  exact (List.mergeSort_perm _ _).trans ((h.map listOf).trans (List.mergeSort_perm _ _).symm)
theorem set_nodup (xs : List ByteArray) : (setOfL xs).length = xs.length ↔ xs.Nodup := by
 have hs : (setOfL xs).Nodup := (setOfL_asc xs).imp fun {a b} h e => by subst e; rw [sl_irrefl] at h; cases h
 constructor
 ·intro h
  exact (perm_of_sub hs (fun x hx => (setOfL_mem_iff xs x).1 hx) (by omega)).nodup_iff.1 hs
 ·intro h
  exact ((List.perm_ext_iff_of_nodup hs h).2 fun x => setOfL_mem_iff xs x).length_eq
theorem sort_set (xs : List ByteArray) : (setOfL (sortL xs)).length = (setOfL xs).length := by
 have h : setOfL (sortL xs) = setOfL xs := asc_unique (setOfL_asc _) (setOfL_asc _) fun x => by
  rw [setOfL_mem_iff, setOfL_mem_iff]; exact (sortL_perm xs).mem_iff
 rw [h]
end Go.Proofs.YthblaeleogdfpaaGreatDoor
