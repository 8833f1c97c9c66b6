/- Words for tables: valid texts, cells, tables; what the types look like. No program in sight. Memory: tables in an own row: one table, two that are exchanged, one that gets another identifier. No program in sight. Plain: how many elements two lists can pair, equal with equal. No program in sight. Plain: rows as texts, names, how columns are aligned, rows in common. No program in sight. -/
import Derived.Test.YtfmlpaplnkohpaaGreatDoorLnRtaa
import Derived.Test.YtfmlpaplnkohpaaGreatDoorLnRtab
import Derived.Lib.ValidU
import Derived.Lib.ItoaNum
set_option linter.unusedVariables false
set_option linter.unusedSimpArgs false
namespace Go.Proofs.YtfmlpaplnkohpaaGreatDoor
open Go.RowKit

/-- a valid short text -/
def TextOk (n : Nat) (s : ByteArray) : Prop := s.size ≤ n ∧ Lib.validD s.data.toList = true
def CellOk (c : Cl) : Prop := (c.null = true → c.text = ⟨#[]⟩) ∧ TextOk 8 c.text
theorem cellOk_null : CellOk ⟨true, ⟨#[]⟩⟩ := by unfold CellOk TextOk; decide +kernel
theorem cellOk_text {s : ByteArray} (h : TextOk 8 s) : CellOk ⟨false, s⟩ := ⟨(fun h => by cases h), h⟩
theorem TextOk.more {m n : Nat} {s : ByteArray} (h : TextOk m s) (hn : m ≤ n) : TextOk n s := ⟨Nat.le_trans h.1 hn, h.2⟩

theorem info_cell : (Tryz.prog.info? 42).map (fun i => (i.zero, i.size, i.bytes)) = some (some (.agg #[.bool false, .string ⟨#[]⟩]), 2, 24) := by kernel_rfl
theorem info_col : (Tryz.prog.info? 39).map (fun i => (i.zero, i.size, i.bytes)) = some (some (.agg #[.string ⟨#[]⟩, .slice none 0 0]), 2, 40) := by kernel_rfl
theorem info_tab : (Tryz.prog.info? 29).map (fun i => (i.zero, i.size, i.bytes)) = some (some (.agg #[.int .i64 0, .string ⟨#[]⟩, .slice none 0 0]), 3, 48) := by kernel_rfl
/-- a valid table -/
def TabV (t : Ta) : Prop := 0 ≤ t.id ∧ t.id ≤ 1073741824 ∧ TextOk 1024 t.name ∧ t.cols.length ≤ 64 ∧ ∃ n, n ≤ 4096 ∧ ∀ x ∈ t.cols, TextOk 1024 x.name ∧ x.cells.length = n ∧ ∀ c ∈ x.cells, CellOk c
/-- an element of a list -/
theorem getD_mem {α : Type} {l : List α} {i : Nat} (h : i < l.length) (d : α) : l.getD i d ∈ l := by simp [List.getD, h]
def ListV (ts : List Ta) : Prop := ts.length ≤ 1024 ∧ (∀ t ∈ ts, TabV t) ∧ ts.Pairwise (fun a b => a.id < b.id)
theorem ids_up {ts : List Ta} (h : ts.Pairwise (fun a b => a.id < b.id)) {i j : Nat} (hij : i < j) (hj : j < ts.length) : (ts.getD i Ta.z).id < (ts.getD j Ta.z).id := by
  have h1 := List.pairwise_iff_getElem.1 h i j (by omega) hj hij
  simpa [List.getD, hj, show i < ts.length by omega] using h1

/-- how many rows columns have -/
def rowsC (xs : List Co) : Nat := (xs.getD 0 Co.z).cells.length

end Go.Proofs.YtfmlpaplnkohpaaGreatDoor

namespace Go.Proofs.YtfmlpaplnkohpaaGreatDoor
open Go.RowKit

def fput (f : Nat → Nat → Value) (i j : Nat) (u : Value) (i' j' : Nat) : Value := if i' = i ∧ j' = j then u else f i' j'
theorem flat_set3 (n : Nat) (f : Nat → Nat → Value) (i j : Nat) (hi : i < n) (hj : j < 3) (u : Value) : (flatK 3 n f).set (i * 3 + j) u = flatK 3 n (fput f i j u) := by
  apply List.ext_getElem?
  intro m
  by_cases hm : m < n * 3
  · have e : m = m / 3 * 3 + m % 3 := by omega
    have hk : m / 3 < n := by omega
    have a1 := flatK_at (k := 3) (f := fput f i j u) hk (Nat.mod_lt m (by omega))
    have a2 := flatK_at (k := 3) (f := f) hk (Nat.mod_lt m (by omega))
    rw [← e] at a1 a2
    rw [a1, List.getElem?_set]
    by_cases hmi : i * 3 + j = m
    · have e2 : m / 3 = i := by omega
      have e3 : m % 3 = j := by omega
      rw [if_pos hmi, if_pos (by rw [flatK_len]; omega), e2, e3]
      simp [fput]
    · rw [if_neg hmi, a2]
      have : ¬ (m / 3 = i ∧ m % 3 = j) := by omega
      simp [fput, this]
  · rw [List.getElem?_eq_none (by rw [List.length_set, flatK_len]; omega), List.getElem?_eq_none (by rw [flatK_len]; omega)]

/-- i and j exchanged -/
def swL (ts : List Ta) (i j : Nat) : List Ta := (ts.set i (ts.getD j Ta.z)).set j (ts.getD i Ta.z)
theorem swL_len (ts : List Ta) (i j : Nat) : (swL ts i j).length = ts.length := by simp [swL]
theorem swL_at {ts : List Ta} {i j k : Nat} (hk : k < ts.length) (hij : i ≠ j) : (swL ts i j).getD k Ta.z = if k = i then ts.getD j Ta.z else if k = j then ts.getD i Ta.z else ts.getD k Ta.z := by
  unfold swL
  simp only [List.getD, List.getElem?_set, List.length_set]
  by_cases h1 : k = i
  · subst h1
    have : j ≠ k := fun e => hij e.symm
    simp [this, hk]
  · by_cases h2 : k = j
    · subst h2
      simp [h1, hk]
    · have h3 : j ≠ k := fun e => h2 e.symm
      have h4 : i ≠ k := fun e => h1 e.symm
      simp [h1, h2, h3, h4]
theorem swL_mem {ts : List Ta} {i j : Nat} (hi : i < ts.length) (hj : j < ts.length) : ∀ t ∈ swL ts i j, t ∈ ts := by
  intro t ht
  unfold swL at ht
  rcases List.mem_or_eq_of_mem_set ht with h | h
  · rcases List.mem_or_eq_of_mem_set h with h | h
    · exact h
    · rw [h]; exact getD_mem hj _
  · rw [h]; exact getD_mem hi _

section
variable {W : World} {base : Nat} {e : TypeId} {g n cap : Nat} {ts : List Ta} {tv : Nat → Value}
theorem ta_keep {W' : World} (hc : ∀ p : Addr, p.block ≠ g → W'.cell? p = W.cell? p) (hz : W'.heap.size = W.heap.size) {u : Value} {xs : List Co} (h : RdCo W (Own W base (.slice (some ⟨g, 0, none⟩) n cap)) u xs) : RdCo W' (Own W' base (.slice (some ⟨g, 0, none⟩) n cap)) u xs :=
  (h.keep fun p hp => hc p fun e => hp.2.2 (by rw [e]; rfl)).more fun b hb => ⟨hb.1, by rw [hz]; exact hb.2.1, hb.2.2⟩
/-- two tables are exchanged -/
theorem ta_swap (hN : Nest 3 W base e (.slice (some ⟨g, 0, none⟩) n cap) ts.length (taF ts tv) (fun i w S => RdCo w S (tv i) (ts.getD i Ta.z).cols)) (hn : ts.length = n) {i j : Nat} (hi : i < n) (hj : j < n) (hij : i ≠ j) :
    TaSt ((((((W.setCell ⟨g, i * 3, none⟩ (.int .i64 (ts.getD j Ta.z).id)).setCell ⟨g, i * 3 + 1, none⟩ (.string (ts.getD j Ta.z).name)).setCell ⟨g, i * 3 + 2, none⟩ (tv j)).setCell ⟨g, j * 3, none⟩ (.int .i64 (ts.getD i Ta.z).id)).setCell ⟨g, j * 3 + 1, none⟩ (.string (ts.getD i Ta.z).name)).setCell ⟨g, j * 3 + 2, none⟩ (tv i))
      base e (.slice (some ⟨g, 0, none⟩) n cap) (swL ts i j) := by
  obtain ⟨hrow, hlow, hkids⟩ := hN
  have hlen := swL_len ts i j
  rw [hn] at hrow hkids
  refine ⟨fun k => if k = i then tv j else if k = j then tv i else tv k, ?_, by simpa using hlow, fun k hk => ?_⟩
  · rw [hlen, hn]
    have h1 := (((((((hrow.stored (i * 3) (.int .i64 (ts.getD j Ta.z).id)).1).stored (i * 3 + 1) (.string (ts.getD j Ta.z).name)).1.stored (i * 3 + 2) (tv j)).1.stored (j * 3) (.int .i64 (ts.getD i Ta.z).id)).1.stored (j * 3 + 1) (.string (ts.getD i Ta.z).name)).1.stored (j * 3 + 2) (tv i)).1
    have s0 := flat_set3 n (taF ts tv) i 0 hi (by omega) (.int .i64 (ts.getD j Ta.z).id)
    have s3 := fun f => flat_set3 n f j 0 hj (by omega) (.int .i64 (ts.getD i Ta.z).id)
    simp only [Nat.add_zero] at s0 s3
    rw [s0, flat_set3 n _ i 1 hi (by omega), flat_set3 n _ i 2 hi (by omega), s3, flat_set3 n _ j 1 hj (by omega), flat_set3 n _ j 2 hj (by omega)] at h1
    rw [show flatK 3 n (taF (swL ts i j) fun k => if k = i then tv j else if k = j then tv i else tv k) = _ from flatK_congr fun k hk m hm => ?_]
    · exact h1
    · unfold taF
      rw [swL_at (by omega) hij]
      have hji : j ≠ i := fun e => hij e.symm
      rcases (show m = 0 ∨ m = 1 ∨ m = 2 by omega) with rfl | rfl | rfl
      · by_cases h2 : k = i
        · subst h2; simp [fput, three, hij]
        · by_cases h3 : k = j
          · subst h3; simp [fput, three, h2]
          · simp [fput, three, h2, h3]
      · by_cases h2 : k = i
        · subst h2; simp [fput, three, hij]
        · by_cases h3 : k = j
          · subst h3; simp [fput, three, h2]
          · simp [fput, three, h2, h3]
      · by_cases h2 : k = i
        · subst h2; simp [fput, three, hij]
        · by_cases h3 : k = j
          · subst h3; simp [fput, three, h2]
          · simp [fput, three, h2, h3]
  · rw [hlen, hn] at hk
    have hc : ∀ p : Addr, p.block ≠ g → ((((((W.setCell ⟨g, i * 3, none⟩ (.int .i64 (ts.getD j Ta.z).id)).setCell ⟨g, i * 3 + 1, none⟩ (.string (ts.getD j Ta.z).name)).setCell ⟨g, i * 3 + 2, none⟩ (tv j)).setCell ⟨g, j * 3, none⟩ (.int .i64 (ts.getD i Ta.z).id)).setCell ⟨g, j * 3 + 1, none⟩ (.string (ts.getD i Ta.z).name)).setCell ⟨g, j * 3 + 2, none⟩ (tv i)).cell? p = W.cell? p := fun p hp => by
      have hne : ∀ o : Nat, (⟨g, o, none⟩ : Addr) ≠ p := fun o e => hp (by rw [← e])
      rw [World.cell?_setCell_other _ _ _ _ (hne _), World.cell?_setCell_other _ _ _ _ (hne _), World.cell?_setCell_other _ _ _ _ (hne _), World.cell?_setCell_other _ _ _ _ (hne _), World.cell?_setCell_other _ _ _ _ (hne _), World.cell?_setCell_other _ _ _ _ (hne _)]
    refine ta_keep hc (by simp) ?_
    rw [swL_at (by omega) hij]
    by_cases h2 : k = i
    · subst h2; simpa using hkids j hj
    · by_cases h3 : k = j
      · subst h3; simpa [h2] using hkids i hi
      · simpa [h2, h3] using hkids k hk
/-- a table gets another identifier -/
def idL (ts : List Ta) (i : Nat) (z : Int) : List Ta := ts.set i ⟨z, (ts.getD i Ta.z).name, (ts.getD i Ta.z).cols⟩
theorem idL_len (ts : List Ta) (i : Nat) (z : Int) : (idL ts i z).length = ts.length := by simp [idL]
theorem idL_at {ts : List Ta} {i k : Nat} {z : Int} (hk : k < ts.length) : (idL ts i z).getD k Ta.z = if k = i then ⟨z, (ts.getD i Ta.z).name, (ts.getD i Ta.z).cols⟩ else ts.getD k Ta.z := by
  unfold idL
  simp only [List.getD, List.getElem?_set]
  by_cases h1 : k = i
  · subst h1; simp [hk]
  · have h2 : i ≠ k := fun e => h1 e.symm
    simp [h1, h2]
theorem ta_id (hN : TaSt W base e (.slice (some ⟨g, 0, none⟩) n cap) ts) (hn : ts.length = n) {i : Nat} (hi : i < n) (z : Int) :
    TaSt (W.setCell ⟨g, i * 3, none⟩ (.int .i64 z)) base e (.slice (some ⟨g, 0, none⟩) n cap) (idL ts i z) := by
  obtain ⟨tv, hrow, hlow, hkids⟩ := hN
  have hlen := idL_len ts i z
  rw [hn] at hrow hkids
  refine ⟨tv, ?_, by simpa using hlow, fun k hk => ?_⟩
  · rw [hlen, hn]
    have h1 := (hrow.stored (i * 3) (.int .i64 z)).1
    have s0 := flat_set3 n (taF ts tv) i 0 hi (by omega) (.int .i64 z)
    simp only [Nat.add_zero] at s0
    rw [s0] at h1
    rw [show flatK 3 n (taF (idL ts i z) tv) = _ from flatK_congr fun k hk m hm => ?_]
    · exact h1
    · unfold taF
      rw [idL_at (by omega)]
      rcases (show m = 0 ∨ m = 1 ∨ m = 2 by omega) with rfl | rfl | rfl
      · by_cases h2 : k = i
        · subst h2; simp [fput, three]
        · simp [fput, three, h2]
      · by_cases h2 : k = i
        · subst h2; simp [fput, three]
        · simp [fput, three, h2]
      · by_cases h2 : k = i
        · subst h2; simp [fput, three]
        · simp [fput, three, h2]
  · rw [hlen, hn] at hk
    refine ta_keep (fun p hp => World.cell?_setCell_other _ _ _ _ (fun e => hp (by rw [← e]))) (by simp) ?_
    rw [idL_at (by omega)]
    by_cases h2 : k = i
    · subst h2; simpa using hkids k hi
    · simpa [h2] using hkids k hk
/-- one table, in a block of its own -/
theorem ta_one {b : Nat} {t : Ta} {u : Value} {S : Nat → Prop} (hb : BoxN W b e #[.int .i64 t.id, .string t.name, u]) (hu : RdCo W S u t.cols) (hS : ∀ k, S k → base ≤ k ∧ k < W.heap.size ∧ k ≠ b) (hbase : base ≤ b) :
    TaSt W base e (.slice (some ⟨b, 0, none⟩) 1 1) [t] := by
  refine ⟨fun _ => u, ⟨rfl, .inr ⟨b, 1, #[.int .i64 t.id, .string t.name, u], rfl, hbase, hb, Nat.le_refl _, by simp [maxLen], rfl, rfl⟩⟩, Nat.le_of_lt (Nat.lt_of_le_of_lt hbase hb.lt), fun i hi => ?_⟩
  obtain rfl : i = 0 := by simp at hi; exact hi
  exact hu.more fun k hk => ⟨(hS k hk).1, (hS k hk).2.1, fun e => (hS k hk).2.2 (by simpa [Value.ownBlock] using e.symm)⟩
end
end Go.Proofs.YtfmlpaplnkohpaaGreatDoor

namespace Go.Proofs.YtfmlpaplnkohpaaGreatDoor

section
variable {α β : Type} [DecidableEq α] [DecidableEq β]
/-- how many elements of one list can be paired with equal ones of another -/
def comL : List α → List α → Nat
  | [], _ => 0
  | x :: A, B => if x ∈ B then comL A (B.erase x) + 1 else comL A B
theorem comL_nil (B : List α) : comL [] B = 0 := rfl
theorem comL_cons (x : α) (A B : List α) : comL (x :: A) B = if x ∈ B then comL A (B.erase x) + 1 else comL A B := rfl
theorem comL_nil_right : ∀ A : List α, comL A ([] : List α) = 0
  | [] => rfl
  | x :: A => by rw [comL_cons, if_neg (by simp), comL_nil_right A]
theorem comL_perm_right : ∀ {A B B' : List α}, B.Perm B' → comL A B = comL A B'
  | [], _, _, _ => rfl
  | x :: A, B, B', h => by
    rw [comL_cons, comL_cons]
    by_cases hx : x ∈ B
    · rw [if_pos hx, if_pos (h.mem_iff.1 hx), comL_perm_right (h.erase x)]
    · rw [if_neg hx, if_neg (fun h' => hx (h.mem_iff.2 h')), comL_perm_right h]
theorem comL_swap (x y : α) (A B : List α) : comL (x :: y :: A) B = comL (y :: x :: A) B := by
  by_cases e : x = y
  · subst e; rfl
  rw [comL_cons, comL_cons, comL_cons, comL_cons, comL_cons, comL_cons]
  have h1 : ∀ C : List α, (y ∈ C.erase x ↔ y ∈ C) := fun C => List.mem_erase_of_ne (Ne.symm e)
  have h2 : ∀ C : List α, (x ∈ C.erase y ↔ x ∈ C) := fun C => List.mem_erase_of_ne e
  by_cases hx : x ∈ B <;> by_cases hy : y ∈ B
  · rw [if_pos hx, if_pos ((h1 B).2 hy), if_pos hy, if_pos ((h2 B).2 hx), List.erase_comm]
  · rw [if_pos hx, if_neg (fun h => hy ((h1 B).1 h)), if_neg hy, if_pos hx]
  · rw [if_neg hx, if_pos hy, if_pos hy, if_neg (fun h => hx ((h2 B).1 h))]
  · rw [if_neg hx, if_neg hy, if_neg hy, if_neg hx]
theorem comL_perm_left {A A' : List α} (h : A.Perm A') : ∀ B : List α, comL A B = comL A' B := by
  induction h with
  | nil => intro B; rfl
  | cons x _ ih => intro B; rw [comL_cons, comL_cons, ih, ih]
  | swap x y l => intro B; exact comL_swap _ _ _ _
  | trans _ _ ih1 ih2 => intro B; rw [ih1, ih2]
theorem comL_cons_right_ne : ∀ {A B : List α} {x : α}, x ∉ A → comL A (x :: B) = comL A B
  | [], _, _, _ => rfl
  | a :: A, B, x, h => by
    have h1 : a ≠ x := fun e => h (by simp [e])
    have h2 : x ∉ A := fun h' => h (by simp [h'])
    rw [comL_cons, comL_cons]
    have hm : a ∈ x :: B ↔ a ∈ B := by simp [h1]
    by_cases ha : a ∈ B
    · rw [if_pos (hm.2 ha), if_pos ha, List.erase_cons_tail (by simpa using fun e : x = a => h1 e.symm), comL_cons_right_ne h2]
    · rw [if_neg (fun h' => ha (hm.1 h')), if_neg ha, comL_cons_right_ne h2]
theorem comL_cons_right (A B : List α) (x : α) : comL A (x :: B) = if x ∈ A then comL (A.erase x) B + 1 else comL A B := by
  by_cases h : x ∈ A
  · rw [if_pos h, comL_perm_left (List.perm_cons_erase h), comL_cons, if_pos (by simp), List.erase_cons_head]
  · rw [if_neg h, comL_cons_right_ne h]
theorem comL_comm : ∀ A B : List α, comL A B = comL B A
  | [], B => (comL_nil_right B).symm
  | x :: A, B => by
    rw [comL_cons, comL_cons_right]
    by_cases h : x ∈ B
    · rw [if_pos h, if_pos h, comL_comm A (B.erase x)]
    · rw [if_neg h, if_neg h, comL_comm A B]
theorem comL_self : ∀ A : List α, comL A A = A.length
  | [] => rfl
  | x :: A => by rw [comL_cons, if_pos (by simp), List.erase_cons_head, comL_self A]; rfl
theorem comL_le_left : ∀ A B : List α, comL A B ≤ A.length
  | [], _ => Nat.le_refl _
  | x :: A, B => by
    rw [comL_cons, List.length_cons]
    have h1 := comL_le_left A (B.erase x)
    have h2 := comL_le_left A B
    split <;> omega
theorem comL_le_right (A B : List α) : comL A B ≤ B.length := by rw [comL_comm]; exact comL_le_left B A
theorem comL_map {f : α → β} : ∀ {A B : List α}, (∀ x ∈ A, ∀ y ∈ B, f x = f y → x = y) → comL (A.map f) (B.map f) = comL A B
  | [], _, _ => rfl
  | x :: A, B, h => by
    have hm : f x ∈ B.map f ↔ x ∈ B := by
      constructor
      · intro h'
        obtain ⟨y, hy, e⟩ := List.mem_map.1 h'
        rw [h x (by simp) y hy e.symm]
        exact hy
      · intro h'; exact List.mem_map_of_mem h'
    rw [List.map_cons, comL_cons, comL_cons]
    by_cases hx : x ∈ B
    · rw [if_pos (hm.2 hx), if_pos hx]
      have hp : ((B.map f).erase (f x)).Perm ((B.erase x).map f) := by
        have h1 : (B.map f).Perm (f x :: (B.erase x).map f) := (List.perm_cons_erase hx).map f
        have h2 := h1.erase (f x)
        rwa [List.erase_cons_head] at h2
      rw [comL_perm_right hp, comL_map (A := A) (B := B.erase x) (fun a ha b hb => h a (by simp [ha]) b (List.mem_of_mem_erase hb))]
    · rw [if_neg (fun h' => hx (hm.1 h')), if_neg hx, comL_map (A := A) (B := B) (fun a ha b hb => h a (by simp [ha]) b hb)]
/-- an element less -/
theorem comL_less (A B : List α) (x : α) : comL A B ≤ comL A (x :: B) ∧ comL A (x :: B) ≤ comL A B + 1 := by
  rw [comL_cons_right]
  by_cases h : x ∈ A
  · rw [if_pos h]
    have h1 : comL A B = comL (x :: A.erase x) B := comL_perm_left (List.perm_cons_erase h) B
    have key : ∀ (C : List α) (B : List α), comL C B ≤ comL (x :: C) B ∧ comL (x :: C) B ≤ comL C B + 1 := by
      intro C B
      rw [comL_cons]
      by_cases hx : x ∈ B
      · rw [if_pos hx]
        have e : comL C B = comL C (x :: B.erase x) := comL_perm_right (List.perm_cons_erase hx)
        have h2 : comL C (B.erase x) ≤ comL C (x :: B.erase x) ∧ comL C (x :: B.erase x) ≤ comL C (B.erase x) + 1 := by
          have gen : ∀ (n : Nat) (C B : List α), C.length = n → comL C B ≤ comL C (x :: B) ∧ comL C (x :: B) ≤ comL C B + 1 := by
            intro n
            induction n with
            | zero =>
              intro C B hC
              obtain rfl := List.eq_nil_of_length_eq_zero hC
              exact ⟨Nat.le_refl _, by simp [comL]⟩
            | succ n ih =>
              intro C B hC
              match C, hC with
              | c :: C, hC =>
                have hl : C.length = n := by simpa using hC
                rw [comL_cons, comL_cons]
                by_cases hcb : c ∈ B
                · rw [if_pos hcb, if_pos (by simp [hcb])]
                  by_cases e : c = x
                  · subst e
                    rw [List.erase_cons_head]
                    have e2 : comL C B = comL C (c :: B.erase c) := comL_perm_right (List.perm_cons_erase hcb)
                    have := ih C (B.erase c) hl
                    omega
                  · rw [List.erase_cons_tail (by simpa using fun h : x = c => e h.symm)]
                    have := ih C (B.erase c) hl
                    omega
                · rw [if_neg hcb]
                  by_cases e : c = x
                  · subst e
                    rw [if_pos (by simp), List.erase_cons_head]
                    omega
                  · rw [if_neg (by simp [e, hcb])]
                    exact ih C B hl
          exact gen _ C (B.erase x) rfl
        omega
      · rw [if_neg hx]
        omega
    have := key (A.erase x) B
    omega
  · rw [if_neg h]
    omega
end

/-- the sum of the lesser counts -/
def minSum (N : Nat) (f g : Nat → Nat) : Nat := ((List.range N).map fun i => min (f i) (g i)).sum
theorem minSum_congr {N : Nat} {f g f' g' : Nat → Nat} (h : ∀ i, i < N → f i = f' i ∧ g i = g' i) : minSum N f g = minSum N f' g' := by
  unfold minSum
  congr 1
  refine List.map_congr_left fun i hi => ?_
  rw [(h i (List.mem_range.1 hi)).1, (h i (List.mem_range.1 hi)).2]
theorem minSum_bump {f g f' g' : Nat → Nat} {k : Nat} (hf : ∀ i, i ≠ k → f' i = f i ∧ g' i = g i) (d : Nat) (hk : min (f' k) (g' k) = min (f k) (g k) + d) : ∀ {N : Nat}, k < N → minSum N f' g' = minSum N f g + d := by
  intro N
  induction N with
  | zero => intro h; omega
  | succ N ih =>
    intro h
    have e : ∀ a b : Nat → Nat, minSum (N + 1) a b = minSum N a b + min (a N) (b N) := fun a b => by simp [minSum, List.range_succ]
    rw [e, e]
    by_cases hkn : k = N
    · subst hkn
      rw [hk, minSum_congr (f' := f) (g' := g) (fun i hi => hf i (by omega))]
      omega
    · rw [ih (by omega), (hf N (by omega)).1, (hf N (by omega)).2]
      omega
theorem comL_minSum {N : Nat} : ∀ {A B : List Nat}, (∀ x ∈ A, x < N) → comL A B = minSum N (fun i => A.count i) (fun i => B.count i)
  | [], B, _ => by
    rw [comL_nil]
    unfold minSum
    symm
    rw [List.sum_eq_zero_iff_forall_eq_nat]
    intro x hx
    obtain ⟨i, -, rfl⟩ := List.mem_map.1 hx
    simp
  | x :: A, B, h => by
    have hx := h x (by simp)
    rw [comL_cons]
    by_cases hm : x ∈ B
    · rw [if_pos hm, comL_minSum (A := A) (B := B.erase x) fun a ha => h a (by simp [ha])]
      symm
      refine minSum_bump (k := x) (fun i hi => ⟨?_, ?_⟩) 1 ?_ hx
      · rw [List.count_cons_of_ne (Ne.symm hi)]
      · rw [List.count_erase_of_ne hi]
      · skip
        rw [List.count_cons_self, List.count_erase_self]
        have := List.count_pos_iff.2 hm
        omega
    · rw [if_neg hm, comL_minSum (A := A) (B := B) fun a ha => h a (by simp [ha])]
      symm
      have h0 : B.count x = 0 := List.count_eq_zero.2 hm
      refine minSum_bump (k := x) (fun i hi => ⟨?_, rfl⟩) 0 ?_ hx
      · rw [List.count_cons_of_ne (Ne.symm hi)]
      · rw [h0]; omega

end Go.Proofs.YtfmlpaplnkohpaaGreatDoor

namespace Go.Proofs.YtfmlpaplnkohpaaGreatDoor
open Go.RowKit

instance clEq : DecidableEq Cl := fun a b =>
  if h : a.null = b.null ∧ a.text = b.text then .isTrue (by cases a; cases b; simp at h; simp [h]) else .isFalse (by rintro rfl; exact h ⟨rfl, rfl⟩)

/-! ### A row as a text -/
def encC (c : Cl) : List UInt8 := if c.null = true then [45] else Lib.decDigits c.text.size ++ [58] ++ c.text.data.toList
def encR (r : List Cl) : List UInt8 := r.flatMap encC
def Cell1 (c : Cl) : Prop := (c.null = true → c.text = ⟨#[]⟩) ∧ c.text.size ≤ 1024
theorem digits_fact : ∀ n, n < 1025 → (∀ d ∈ Lib.decDigits n, d ≠ 58 ∧ d ≠ 45) ∧ Lib.decDigits n ≠ [] ∧ (Lib.decDigits n).foldl (fun a d => a * 10 + (d.toNat - 48)) 0 = n := by decide +kernel
theorem digits_inj {m n : Nat} (hm : m < 1025) (hn : n < 1025) (h : Lib.decDigits m = Lib.decDigits n) : m = n := by
  rw [← (digits_fact m hm).2.2, ← (digits_fact n hn).2.2, h]
theorem split_colon : ∀ {a b x y : List UInt8}, (∀ d ∈ a, d ≠ 58) → (∀ d ∈ b, d ≠ 58) → a ++ 58 :: x = b ++ 58 :: y → a = b ∧ x = y
  | [], [], _, _, _, _, h => ⟨rfl, by simpa using h⟩
  | [], d :: b, _, _, _, hb, h => by
    simp at h
    exact absurd h.1.symm (hb d (by simp))
  | d :: a, [], _, _, ha, _, h => by
    simp at h
    exact absurd h.1 (ha d (by simp))
  | d :: a, e :: b, x, y, ha, hb, h => by
    simp at h
    obtain ⟨h1, h2⟩ := split_colon (fun c hc => ha c (by simp [hc])) (fun c hc => hb c (by simp [hc])) h.2
    exact ⟨by rw [h.1, h1], h2⟩
theorem encC_inj {c d : Cl} {x y : List UInt8} (hc : Cell1 c) (hd : Cell1 d) (h : encC c ++ x = encC d ++ y) : c = d ∧ x = y := by
  obtain ⟨cn, ct⟩ := c
  obtain ⟨dn, dt⟩ := d
  obtain ⟨hc1, hc2⟩ := hc
  obtain ⟨hd1, hd2⟩ := hd
  simp only at hc1 hc2 hd1 hd2
  have fc := digits_fact ct.size (by omega)
  have fd := digits_fact dt.size (by omega)
  have hhead : ∀ {l : List UInt8} {z : List UInt8}, (∀ e ∈ l, e ≠ 58 ∧ e ≠ 45) → l ≠ [] → ∀ {u : List UInt8}, 45 :: z = l ++ u → False := fun {l z} h1 h2 {u} e => by
    cases l with
    | nil => exact h2 rfl
    | cons a l =>
      simp at e
      exact (h1 a (by simp)).2 e.1.symm
  unfold encC at h
  simp only at h
  cases cn <;> cases dn
  · rw [if_neg Bool.false_ne_true, if_neg Bool.false_ne_true, List.append_assoc, List.append_assoc, List.append_assoc, List.append_assoc, List.singleton_append, List.singleton_append] at h
    obtain ⟨h1, h2⟩ := split_colon (fun e he => (fc.1 e he).1) (fun e he => (fd.1 e he).1) h
    have hs := digits_inj (by omega) (by omega) h1
    have hl : ct.data.toList.length = dt.data.toList.length := by rw [Array.length_toList, Array.length_toList]; exact hs
    obtain ⟨h3, h4⟩ := List.append_inj h2 hl
    obtain ⟨⟨ct⟩⟩ := ct
    obtain ⟨⟨dt⟩⟩ := dt
    simp only at h3
    subst h3
    exact ⟨rfl, h4⟩
  · rw [if_neg Bool.false_ne_true, if_pos rfl, List.append_assoc, List.append_assoc] at h
    exact absurd h.symm (fun e => hhead fc.1 fc.2.1 e)
  · rw [if_neg Bool.false_ne_true, if_pos rfl, List.append_assoc, List.append_assoc] at h
    exact absurd h (fun e => hhead fd.1 fd.2.1 e)
  · rw [if_pos rfl, if_pos rfl] at h
    rw [hc1 rfl, hd1 rfl]
    exact ⟨rfl, by simpa using h⟩
theorem encR_inj : ∀ {r s : List Cl}, r.length = s.length → (∀ c ∈ r, Cell1 c) → (∀ c ∈ s, Cell1 c) → encR r = encR s → r = s
  | [], [], _, _, _, _ => rfl
  | c :: r, d :: s, hl, hr, hs, h => by
    unfold encR at h
    rw [List.flatMap_cons, List.flatMap_cons] at h
    obtain ⟨h1, h2⟩ := encC_inj (hr c (by simp)) (hs d (by simp)) h
    rw [h1, encR_inj (by simpa using hl) (fun e he => hr e (by simp [he])) (fun e he => hs e (by simp [he])) h2]

/-! ### Names and columns -/
def namesL (xs : List Co) : List ByteArray := xs.map Co.name
/-- the first column with a name -/
def idxP : List ByteArray → ByteArray → Nat
  | [], _ => 0
  | x :: l, s => if x = s then 0 else idxP l s + 1
theorem idxP_lt : ∀ {l : List ByteArray} {s : ByteArray}, s ∈ l → idxP l s < l.length
  | x :: l, s, h => by
    unfold idxP
    by_cases e : x = s
    · rw [if_pos e]; simp
    · rw [if_neg e]
      have := idxP_lt (l := l) (s := s) (by rcases List.mem_cons.1 h with h | h; exact absurd h.symm e; exact h)
      simp; omega
theorem idxP_get : ∀ {l : List ByteArray} {s : ByteArray}, s ∈ l → l.getD (idxP l s) ⟨#[]⟩ = s
  | x :: l, s, h => by
    unfold idxP
    by_cases e : x = s
    · rw [if_pos e]; exact e
    · rw [if_neg e, List.getD_cons_succ]
      exact idxP_get (by rcases List.mem_cons.1 h with h | h; exact absurd h.symm e; exact h)
theorem idxP_nodup : ∀ {l : List ByteArray} (_ : l.Nodup) {i : Nat}, i < l.length → idxP l (l.getD i ⟨#[]⟩) = i
  | x :: l, hn, 0, _ => by simp [idxP]
  | x :: l, hn, i + 1, h => by
    have hi : i < l.length := by simpa using h
    rw [List.getD_cons_succ]
    unfold idxP
    have hm : l.getD i ⟨#[]⟩ ∈ l := by simp [List.getD, hi]
    rw [if_neg (fun e : x = l.getD i ⟨#[]⟩ => (List.nodup_cons.1 hn).1 (by rw [e]; exact hm)), idxP_nodup (List.nodup_cons.1 hn).2 hi]
def idxN (xs : List Co) (s : ByteArray) : Nat := idxP (namesL xs) s
theorem namesL_getD (xs : List Co) (i : Nat) : (namesL xs).getD i ⟨#[]⟩ = (xs.getD i Co.z).name := by
  unfold namesL
  rw [List.getD, List.getElem?_map]
  simp only [List.getD]
  cases xs[i]? <;> rfl
/-- the columns of b, in the order of those of a with the same names -/
def alignL (a b : List Co) : List Nat := (namesL a).map (idxN b)
def Aligns (a b : List Co) : Prop := (namesL a).Nodup ∧ (namesL b).Nodup ∧ (namesL a).Perm (namesL b)
instance (a b : List Co) : Decidable (Aligns a b) := by unfold Aligns; exact inferInstance
def cellAt (xs : List Co) (k i : Nat) : Cl := (xs.getD k Co.z).cells.getD i Cl.z
def rowAt (xs : List Co) (al : List Nat) (i : Nat) : List Cl := al.map fun k => cellAt xs k i
def rowsOf (xs : List Co) (al : List Nat) (n : Nat) : List (List Cl) := (List.range n).map (rowAt xs al)
def ownL (xs : List Co) : List Nat := List.range xs.length
def rowsN (xs : List Co) : Nat := (xs.getD 0 Co.z).cells.length
def commonL (a b : List Co) : Nat := if Aligns a b then comL (rowsOf a (ownL a) (rowsN a)) (rowsOf b (alignL a b) (rowsN b)) else 0

theorem Aligns.symm {a b : List Co} (h : Aligns a b) : Aligns b a := ⟨h.2.1, h.1, h.2.2.symm⟩
theorem Aligns.len {a b : List Co} (h : Aligns a b) : a.length = b.length := by
  have := h.2.2.length_eq
  simpa [namesL] using this
theorem alignL_len (a b : List Co) : (alignL a b).length = a.length := by simp [alignL, namesL]
theorem idxN_lt {xs : List Co} {s : ByteArray} (h : s ∈ namesL xs) : idxN xs s < xs.length := by
  have := idxP_lt h
  simpa [idxN, namesL] using this
theorem idxN_name {xs : List Co} {s : ByteArray} (h : s ∈ namesL xs) : (xs.getD (idxN xs s) Co.z).name = s := by
  rw [← namesL_getD]
  exact idxP_get h
theorem idxN_at {xs : List Co} (hn : (namesL xs).Nodup) {i : Nat} (hi : i < xs.length) : idxN xs (xs.getD i Co.z).name = i := by
  rw [← namesL_getD]
  exact idxP_nodup hn (by simpa [namesL] using hi)
theorem name_mem {xs : List Co} {i : Nat} (hi : i < xs.length) : (xs.getD i Co.z).name ∈ namesL xs := by
  have e : xs.getD i Co.z = xs[i] := by simp [List.getD, hi]
  rw [e]
  exact List.mem_map_of_mem (List.getElem_mem hi)
theorem alignL_at {a b : List Co} {i : Nat} (hi : i < a.length) : (alignL a b).getD i 0 = idxN b (a.getD i Co.z).name := by
  simp [alignL, namesL, List.getD, hi]
/-- rows in another order of columns -/
def perL (p : List Nat) (r : List Cl) : List Cl := p.map fun k => r.getD k Cl.z
theorem perL_row {xs : List Co} {al p : List Nat} {i : Nat} (h : ∀ k ∈ p, k < al.length) : perL p (rowAt xs al i) = rowAt xs (p.map fun k => al.getD k 0) i := by
  unfold perL rowAt
  rw [List.map_map]
  refine List.map_congr_left fun k hk => ?_
  have := h k hk
  simp [List.getD, this]
theorem row_ext {xs : List Co} {al : List Nat} {r s : List Cl} (hr : r.length = al.length) (hs : s.length = al.length) (h : ∀ k, k < al.length → r.getD k Cl.z = s.getD k Cl.z) : r = s := by
  apply List.ext_getElem (by omega)
  intro k h1 h2
  have := h k (by omega)
  simpa [List.getD, h1, h2] using this

theorem align_back {a b : List Co} (h : Aligns a b) : ∀ {i : Nat}, i < a.length → (alignL b a).getD ((alignL a b).getD i 0) 0 = i ∧ (alignL a b).getD i 0 < b.length := by
  intro i hi
  have hm : (a.getD i Co.z).name ∈ namesL b := h.2.2.mem_iff.1 (name_mem hi)
  have hlt := idxN_lt hm
  rw [alignL_at hi, alignL_at hlt, idxN_name hm, idxN_at h.1 hi]
  exact ⟨rfl, hlt⟩
theorem rowsOf_per {xs : List Co} {al p : List Nat} {n : Nat} (h : ∀ k ∈ p, k < al.length) : (rowsOf xs al n).map (perL p) = rowsOf xs (p.map fun k => al.getD k 0) n := by
  unfold rowsOf
  rw [List.map_map]
  exact List.map_congr_left fun i _ => perL_row h
theorem rowAt_len (xs : List Co) (al : List Nat) (i : Nat) : (rowAt xs al i).length = al.length := by simp [rowAt]
theorem rowsOf_len (xs : List Co) (al : List Nat) (n : Nat) : (rowsOf xs al n).length = n := by simp [rowsOf]
theorem mem_rowsOf {xs : List Co} {al : List Nat} {n : Nat} {r : List Cl} (h : r ∈ rowsOf xs al n) : ∃ i, i < n ∧ r = rowAt xs al i := by
  obtain ⟨i, hi, rfl⟩ := List.mem_map.1 h
  exact ⟨i, List.mem_range.1 hi, rfl⟩
/-- what is common does not depend on the order of the columns: p is an order with a way back q -/
theorem com_per {xs ys : List Co} {al bl p q : List Nat} {m n k : Nat} (ha : al.length = k) (hb : bl.length = k) (hp : ∀ i ∈ p, i < k) (hq : q.length = k) (hpq : ∀ i, i < k → p.getD (q.getD i 0) 0 = i ∧ q.getD i 0 < p.length) :
    comL (rowsOf xs (p.map fun i => al.getD i 0) m) (rowsOf ys (p.map fun i => bl.getD i 0) n) = comL (rowsOf xs al m) (rowsOf ys bl n) := by
  rw [← rowsOf_per (fun i hi => by rw [ha]; exact hp i hi), ← rowsOf_per (fun i hi => by rw [hb]; exact hp i hi)]
  refine comL_map fun r hr s hs e => ?_
  obtain ⟨i, -, rfl⟩ := mem_rowsOf hr
  obtain ⟨j, -, rfl⟩ := mem_rowsOf hs
  refine row_ext (xs := xs) (al := al) (rowAt_len _ _ _) (by rw [rowAt_len]; omega) fun c hc => ?_
  rw [ha] at hc
  obtain ⟨h1, h2⟩ := hpq c hc
  have e2 : ∀ r : List Cl, (perL p r).getD (q.getD c 0) Cl.z = r.getD c Cl.z := fun r => by
    have h3 : p.getD (q.getD c 0) 0 = p[q.getD c 0] := by rw [List.getD, List.getElem?_eq_getElem h2, Option.getD_some]
    rw [h3] at h1
    unfold perL
    rw [List.getD, List.getElem?_map, List.getElem?_eq_getElem h2]
    simp only [Option.map_some, Option.getD_some]
    rw [h1]
  rw [← e2, ← e2, e]
theorem map_getD_range {al : List Nat} {k : Nat} (h : al.length = k) : ((List.range k).map fun i => al.getD i 0) = al := by
  apply List.ext_getElem
  · simp [h]
  · intro i h1 h2
    simp [List.getD, h2]
theorem commonL_comm (a b : List Co) : commonL a b = commonL b a := by
  unfold commonL
  by_cases h : Aligns a b
  · rw [if_pos h, if_pos h.symm, comL_comm]
    have hl := h.len
    have e1 : alignL a b = (alignL a b).map fun i => (ownL b).getD i 0 := by
      have : ∀ i ∈ alignL a b, (ownL b).getD i 0 = i := fun i hi => by
        obtain ⟨j, hj, rfl⟩ := List.getElem_of_mem hi
        have h2 := (align_back h (i := j) (by simpa [alignL_len] using hj)).2
        have e : (alignL a b).getD j 0 = (alignL a b)[j] := by simp [List.getD, hj]
        rw [e] at h2
        simp [ownL, List.getD, h2]
      symm
      exact (List.map_congr_left this).trans (List.map_id' _)
    have e2 : ownL a = (alignL a b).map fun i => (alignL b a).getD i 0 := by
      apply List.ext_getElem
      · simp [ownL, alignL_len]
      · intro i h1 h2
        have hi : i < a.length := by simpa [ownL] using h1
        have h3 := (align_back h hi).1
        have e : (alignL a b).getD i 0 = (alignL a b)[i]'(by rw [alignL_len]; exact hi) := by simp [List.getD, alignL_len, hi]
        rw [e] at h3
        rw [List.getElem_map, h3]
        simp [ownL]
    have key := com_per (xs := b) (ys := a) (al := ownL b) (bl := alignL b a) (p := alignL a b) (q := alignL b a) (m := rowsN b) (n := rowsN a) (k := b.length)
      (by simp [ownL]) (by rw [alignL_len]) (fun i hi => by
        obtain ⟨j, hj, rfl⟩ := List.getElem_of_mem hi
        have h2 := (align_back h (i := j) (by simpa [alignL_len] using hj)).2
        have e : (alignL a b).getD j 0 = (alignL a b)[j] := by simp [List.getD, hj]
        rwa [e] at h2) (by rw [alignL_len]) (fun i hi => by
        have h2 := align_back h.symm hi
        exact ⟨h2.1, by rw [alignL_len]; exact h2.2⟩)
    rw [← e1, ← e2] at key
    exact key
  · rw [if_neg h, if_neg (fun h' => h h'.symm)]

end Go.Proofs.YtfmlpaplnkohpaaGreatDoor
