/- Plain: operations on tables (chapter 38), as the reference does them. No program in sight. Plain: columns whose names get a number at the end (CopiesOrder, ExplainLeads). A column of an own row gets another name. DERIVED: THE SHELF's CONTRACTS AT THIS DUMP, IN PLAIN WORDS (tools/lay-plain.mjs out of 'YtfcccldofaleoaaGreatDoorShVL.lean', which tools/lay-shelf.mjs wrote): THE SAME DECLARATIONS UNDER THE SAME NAMES: 'import', 'namespace', 'open', 'def', 'theorem' AND NOTHING ELSE: no command of the shelf's: FOR A HAND-IN. Each laying: the table of numbers ('.._ren') and one theorem, a field a fact of the dump's own or the kernel's comparison; each contract: ONE APPLICATION. Contracts of text.Valid and the reference's Valid; the tables of UTF-8. -/
import Derived.Test.YtfcccldofaleoaaGreatDoorCopOrdad
import Derived.Test.YtfcccldofaleoaaGreatDoorCopOrdah
import Derived.Test.YtfcccldofaleoaaGreatDoorCopOrdag
import Derived.Shelf.Unicode.ValidAny
import Derived.Test.YtfcccldofaleoaaGreatDoorProg
import Derived.Test.YtfcccldofaleoaaGreatDoorCopOrdaa
namespace Go.Proofs.YtfcccldofaleoaaGreatDoor
open Go.RowKit

/-- an operation -/
structure Po where
  kind : Int
  col : Int
  text : ByteArray
  cols : List Int
def Po.val (o : Po) (v : Value) : Value := .agg #[.int .i64 o.kind, .int .i64 o.col, .string o.text, v]

/-- how cells compare -/
def cmpC (a b : Cl) : Int := if a.null = true ∧ b.null = true then 0 else if a.null = true then -1 else if b.null = true then 1 else if sl a.text b.text = true then -1 else if a.text = b.text then 0 else 1

def thereL (n : Nat) (k : Int) : Bool := decide (0 ≤ k) && decide (k < n)
def canL (n : Nat) (o : Po) : Bool :=
  if o.kind = 1 then thereL n o.col && decide (o.cols.length = 0) && decide (o.text.size ≤ 1024)
  else if o.kind = 2 ∨ o.kind = 5 then thereL n o.col && decide (o.cols.length = 0) && decide (o.text.size = 0)
  else if o.kind = 3 then o.cols.all (thereL n) && (decide (o.col = 0) && decide (o.text.size = 0) && decide (o.cols.length ≤ 64))
  else decide (o.kind = 4) && decide (o.col = 0) && decide (o.text.size = 0) && decide (o.cols.length = 0)

/-- equal rows -/
def eqRow (xs : List Co) (x y : Nat) : Bool := xs.all fun c => decide (c.cells.getD x Cl.z = c.cells.getD y Cl.z)
/-- is row r kept, where out are the rows so far -/
def keepL (xs : List Co) (o : Po) (out : List Nat) (r : Nat) : Bool :=
  if o.kind = 1 then !(cellAt xs o.col.toNat r).null && decide ((cellAt xs o.col.toNat r).text = o.text)
  else if o.kind = 2 then !(cellAt xs o.col.toNat r).null
  else if o.kind = 4 then out.all fun x => !eqRow xs x r
  else true
/-- where row r goes, from place k down -/
def sortAt (f : Nat → Bool) (out : List Nat) : Nat → Nat
  | 0 => 0
  | k + 1 => if f (out.getD k 0) = true then sortAt f out k else k + 1
def gtC (xs : List Co) (c r x : Nat) : Bool := decide (0 < cmpC (cellAt xs c x) (cellAt xs c r))
def atL (xs : List Co) (o : Po) (out : List Nat) (r : Nat) : Nat := if o.kind = 5 then sortAt (gtC xs o.col.toNat r) out out.length else out.length
def stepL (xs : List Co) (o : Po) (out : List Nat) (r : Nat) : List Nat := if keepL xs o out r = true then out.take (atL xs o out r) ++ r :: out.drop (atL xs o out r) else out
def rowsL (xs : List Co) (o : Po) (n : Nat) : List Nat := (List.range n).foldl (stepL xs o) []
def projL (xs : List Co) (ks : List Int) : List Co := ks.map fun k => xs.getD k.toNat Co.z
def pickC (c : Co) (rs : List Nat) : Co := ⟨c.name, rs.map fun r => c.cells.getD r Cl.z⟩
def selL (xs : List Co) (rs : List Nat) : List Co := xs.map fun c => pickC c rs
def doL (xs : List Co) (o : Po) : List Co := if o.kind = 3 then projL xs o.cols else selL xs (rowsL xs o (rowsC xs))

theorem sortAt_le (f : Nat → Bool) (out : List Nat) : ∀ k, sortAt f out k ≤ k
  | 0 => Nat.le_refl _
  | k + 1 => by
    unfold sortAt
    split
    · exact Nat.le_succ_of_le (sortAt_le f out k)
    · exact Nat.le_refl _
theorem atL_le (xs : List Co) (o : Po) (out : List Nat) (r : Nat) : atL xs o out r ≤ out.length := by
  unfold atL
  split
  · exact sortAt_le _ _ _
  · exact Nat.le_refl _
theorem stepL_len (xs : List Co) (o : Po) (out : List Nat) (r : Nat) : (stepL xs o out r).length ≤ out.length + 1 := by
  unfold stepL
  split
  · have := atL_le xs o out r
    simp
    omega
  · omega
theorem stepL_mem {xs : List Co} {o : Po} {out : List Nat} {r x : Nat} (h : x ∈ stepL xs o out r) : x ∈ out ∨ x = r := by
  unfold stepL at h
  split at h
  · rcases List.mem_append.1 h with h | h
    · exact .inl (List.mem_of_mem_take h)
    · rcases List.mem_cons.1 h with h | h
      · exact .inr h
      · exact .inl (List.mem_of_mem_drop h)
  · exact .inl h
theorem rowsL_succ (xs : List Co) (o : Po) (n : Nat) : rowsL xs o (n + 1) = stepL xs o (rowsL xs o n) n := by simp [rowsL, List.range_succ]
theorem rowsL_ok (xs : List Co) (o : Po) : ∀ n, (rowsL xs o n).length ≤ n ∧ ∀ x ∈ rowsL xs o n, x < n
  | 0 => ⟨Nat.le_refl _, fun x h => by cases h⟩
  | n + 1 => by
    obtain ⟨h1, h2⟩ := rowsL_ok xs o n
    rw [rowsL_succ]
    refine ⟨Nat.le_trans (stepL_len _ _ _ _) (by omega), fun x hx => ?_⟩
    rcases stepL_mem hx with h | rfl
    · have := h2 x h; omega
    · omega

/-- what tables have in common that are made of a table -/
def ColsV (xs : List Co) (n : Nat) : Prop := ∀ x ∈ xs, TextOk 1024 x.name ∧ x.cells.length = n ∧ ∀ c ∈ x.cells, CellOk c
theorem TabV.cv {t : Ta} (h : TabV t) : ∃ n, n ≤ 4096 ∧ ColsV t.cols n := h.2.2.2.2
theorem sel_ok {xs : List Co} {n : Nat} (h : ColsV xs n) {rs : List Nat} (hr : ∀ r ∈ rs, r < n) : ColsV (selL xs rs) rs.length := by
  intro x hx
  obtain ⟨c, hc, rfl⟩ := List.mem_map.1 hx
  obtain ⟨h1, h2, h3⟩ := h c hc
  refine ⟨h1, by simp [pickC], fun d hd => ?_⟩
  obtain ⟨r, hrr, rfl⟩ := List.mem_map.1 hd
  have : r < c.cells.length := by rw [h2]; exact hr r hrr
  exact h3 _ (by rw [List.getD, List.getElem?_eq_getElem this]; exact List.getElem_mem this)
theorem proj_ok {xs : List Co} {n : Nat} (h : ColsV xs n) {ks : List Int} (hk : ks.all (thereL xs.length) = true) : ColsV (projL xs ks) n := by
  intro x hx
  obtain ⟨k, hkk, rfl⟩ := List.mem_map.1 hx
  have h1 := List.all_eq_true.1 hk k hkk
  unfold thereL at h1
  simp at h1
  have : k.toNat < xs.length := by omega
  exact h _ (by rw [List.getD, List.getElem?_eq_getElem this]; exact List.getElem_mem this)
theorem rowsC_of {xs : List Co} {n : Nat} (h : ColsV xs n) (hp : 0 < xs.length) : rowsC xs = n := by
  unfold rowsC
  refine (h _ ?_).2.1
  rw [List.getD, List.getElem?_eq_getElem hp]
  exact List.getElem_mem hp
theorem do_valid {t : Ta} (h : TabV t) {o : Po} (hc : canL t.cols.length o = true) : TabV ⟨t.id, t.name, doL t.cols o⟩ := by
  obtain ⟨h0, h1, h2, h3, n, hn, hx⟩ := h
  unfold doL
  by_cases h3' : o.kind = 3
  · have hc2 : o.cols.all (thereL t.cols.length) = true ∧ o.cols.length ≤ 64 := by
      unfold canL at hc
      rw [if_neg (by omega), if_neg (by omega), if_pos h3'] at hc
      simp only [Bool.and_eq_true, decide_eq_true_eq] at hc
      exact ⟨hc.1, hc.2.2⟩
    rw [if_pos h3']
    refine ⟨h0, h1, h2, by simpa [projL] using hc2.2, n, hn, proj_ok hx hc2.1⟩
  · rw [if_neg h3']
    obtain ⟨r1, r2⟩ := rowsL_ok t.cols o (rowsC t.cols)
    rcases Nat.eq_zero_or_pos t.cols.length with hz | hp
    · have e : t.cols = [] := List.eq_nil_of_length_eq_zero hz
      refine ⟨h0, h1, h2, by simp [selL, e], 0, by omega, fun x hx => by simp [selL, e] at hx⟩
    · have hrc := rowsC_of hx hp
      rw [hrc] at r1 r2 ⊢
      exact ⟨h0, h1, h2, by simpa [selL] using h3, _, by omega, sel_ok hx r2⟩

end Go.Proofs.YtfcccldofaleoaaGreatDoor

namespace Go.Proofs.YtfcccldofaleoaaGreatDoor
open Go.RowKit

def digT (i : Nat) : ByteArray := ⟨#[UInt8.ofNat (48 + i)]⟩
def tagC (i : Nat) (c : Co) : Co := ⟨c.name ++ digT i, c.cells⟩
/-- the first q columns have their numbers -/
def tagN (xs : List Co) (q : Nat) : List Co := (List.range xs.length).map fun i => if i < q then tagC i (xs.getD i Co.z) else xs.getD i Co.z
theorem tagN_len (xs : List Co) (q : Nat) : (tagN xs q).length = xs.length := by simp [tagN]
theorem tagN_at {xs : List Co} {q i : Nat} (h : i < xs.length) : (tagN xs q).getD i Co.z = if i < q then tagC i (xs.getD i Co.z) else xs.getD i Co.z := by simp [tagN, List.getD, h]
theorem tagN_zero (xs : List Co) : tagN xs 0 = xs := by
  apply List.ext_getElem
  · exact tagN_len _ _
  · intro i h1 h2
    simp [tagN, List.getD, h2]
theorem tagN_cells {xs : List Co} {q k i : Nat} (hk : k < xs.length) : cellAt (tagN xs q) k i = cellAt xs k i := by
  unfold cellAt
  rw [tagN_at hk]
  split <;> rfl
theorem tag_ok : ∀ s ∈ kcolNames, ∀ i : Fin 4, TextOk 1024 (s ++ digT i) := by unfold TextOk; decide +kernel
theorem tag_ne {s t : ByteArray} {i j : Nat} (hi : i < 4) (hj : j < 4) (h : s ++ digT i = t ++ digT j) : i = j := by
  have h1 : (s ++ digT i).data.toList = (t ++ digT j).data.toList := by rw [h]
  have h2 : ∀ (a : ByteArray) (k : Nat), (a ++ digT k).data.toList = a.data.toList ++ [UInt8.ofNat (48 + k)] := fun a k => by simp [digT]
  rw [h2, h2] at h1
  have h3 := (List.append_inj' h1 rfl).2
  simp at h3
  have : ∀ i, i < 4 → ∀ j, j < 4 → (48 : UInt8) + UInt8.ofNat i = 48 + UInt8.ofNat j → i = j := by decide
  first | exact this i hi j hj h3 | (rcases (show i = 0 ∨ i = 1 ∨ i = 2 ∨ i = 3 by omega) with rfl | rfl | rfl | rfl <;> rcases (show j = 0 ∨ j = 1 ∨ j = 2 ∨ j = 3 by omega) with rfl | rfl | rfl | rfl <;> first | rfl | (exact absurd h3 (by decide)))
theorem tagN_nodup {xs : List Co} (h : xs.length ≤ 4) : (namesL (tagN xs xs.length)).Nodup := by
  rw [List.Nodup, List.pairwise_iff_getElem]
  intro i j hi hj hij e
  have hl : (namesL (tagN xs xs.length)).length = xs.length := by simp [namesL, tagN_len]
  have hi' : i < xs.length := by omega
  have hj' : j < xs.length := by omega
  simp [namesL, tagN, hi', hj', tagC] at e
  have := tag_ne (by omega) (by omega) e
  omega
theorem tagN_valid {t : Ta} (h : KTabOk t) : TextOk 1024 t.name ∧ (tagN t.cols t.cols.length).length ≤ 64 ∧ ∃ n, n ≤ 4096 ∧ ColsV (tagN t.cols t.cols.length) n := by
  obtain ⟨h1, h2, n, hn, h3⟩ := h
  refine ⟨h1.more (by omega), by rw [tagN_len]; omega, n, by omega, fun x hx => ?_⟩
  obtain ⟨i, hi, rfl⟩ := List.getElem_of_mem hx
  rw [tagN_len] at hi
  have e : (tagN t.cols t.cols.length)[i]'(by rw [tagN_len]; exact hi) = tagC i (t.cols.getD i Co.z) := by simp [tagN, hi]
  rw [e]
  obtain ⟨a, b, c⟩ := h3 _ (getD_mem hi Co.z)
  exact ⟨tag_ok _ a ⟨i, by omega⟩, b, c⟩

end Go.Proofs.YtfcccldofaleoaaGreatDoor

namespace Go.Proofs.YtfcccldofaleoaaGreatDoor
open Go.RowKit

/-- a cell of an own row is written -/
theorem own_setAt {w : World} {base : Nat} {e : TypeId} {size g n cap : Nat} {xs : List Value} (h : w.ownsRow base e size (.slice (some ⟨g, 0, none⟩) n cap) n xs) (j : Nat) (u : Value) :
    (w.setCell ⟨g, j, none⟩ u).ownsRow base e size (.slice (some ⟨g, 0, none⟩) n cap) n (xs.set j u) := by
  refine ⟨by rw [List.length_set]; exact h.1, ?_⟩
  rcases h.2 with ⟨h1, _⟩ | ⟨g', cap', cur, h1, hb, hg, hn, hm, hs, ht⟩
  · cases h1
  · obtain ⟨e1, -, e2⟩ := Value.slice.inj h1
    cases e1
    subst e2
    refine .inr ⟨g, cap, cur.setIfInBounds j u, rfl, hb, ?_, hn, hm, by simpa using hs, ?_⟩
    · simp [World.setCell, Array.getElem?_modify, hg]
    · rw [← ht, Array.toList_setIfInBounds, List.take_set]
theorem flat_set (n : Nat) (f f' : Nat → Nat → Value) (i : Nat) (hi : i < n) (u : Value) (h0 : f' i 0 = u) (h1 : f' i 1 = f i 1) (hf : ∀ k, k ≠ i → f' k = f k) : (flatK 2 n f).set (i * 2) u = flatK 2 n f' := by
  apply List.ext_getElem?
  intro m
  by_cases hm : m < n * 2
  · have e : m = m / 2 * 2 + m % 2 := by omega
    have hk : m / 2 < n := by omega
    have a1 := flatK_at (k := 2) (f := f') hk (Nat.mod_lt m (by omega))
    have a2 := flatK_at (k := 2) (f := f) hk (Nat.mod_lt m (by omega))
    rw [← e] at a1 a2
    rw [a1, List.getElem?_set]
    by_cases hmi : i * 2 = m
    · have e2 : m / 2 = i := by omega
      have e3 : m % 2 = 0 := by omega
      rw [if_pos hmi, if_pos (by rw [flatK_len]; omega), e2, e3, h0]
    · rw [if_neg hmi, a2]
      by_cases hki : m / 2 = i
      · have e3 : m % 2 = 1 := by omega
        rw [hki, e3, h1]
      · rw [hf _ hki]
  · rw [List.getElem?_eq_none (by rw [List.length_set, flatK_len]; omega), List.getElem?_eq_none (by rw [flatK_len]; omega)]
theorem CoSt.setName {w : World} {base : Nat} {e : TypeId} {g n cap : Nat} {xs : List Co} (h : CoSt w base e (.slice (some ⟨g, 0, none⟩) n cap) xs) (hn : n = xs.length) {i : Nat} (hi : i < n) (s : ByteArray) :
    CoSt (w.setCell ⟨g, i * 2, none⟩ (.string s)) base e (.slice (some ⟨g, 0, none⟩) n cap) (xs.set i ⟨s, (xs.getD i Co.z).cells⟩) := by
  subst hn
  obtain ⟨cv, h⟩ := h
  refine ⟨cv, ?_, by simpa using h.low, fun k hk => ?_⟩
  · rw [List.length_set, ← flat_set xs.length (coF xs cv) _ i hi (.string s) ?_ ?_ ?_]
    · exact own_setAt h.row (i * 2) _
    · simp [coF, List.getD, hi, two]
    · simp [coF, two]
    · intro k hk
      simp [coF, List.getD, List.getElem?_set, Ne.symm hk]
  · rw [List.length_set] at hk
    have e1 : ((xs.set i ⟨s, (xs.getD i Co.z).cells⟩).getD k Co.z).cells = (xs.getD k Co.z).cells := by
      by_cases hki : i = k
      · subst hki
        simp [List.getD, hi]
      · simp [List.getD, List.getElem?_set, hki]
    rw [e1]
    refine ((h.kids k hk).keep fun p hp => World.cell?_setCell_other _ _ _ _ ?_).more fun b hb => ⟨hb.1, by simpa using hb.2.1, hb.2.2⟩
    intro e2
    subst e2
    exact hp.2.2 rfl

theorem tagN_succ {xs : List Co} {q : Nat} (hq : q < xs.length) : (tagN xs q).set q ⟨((tagN xs q).getD q Co.z).name ++ digT q, ((tagN xs q).getD q Co.z).cells⟩ = tagN xs (q + 1) := by
  have h0 : (tagN xs q).getD q Co.z = xs.getD q Co.z := by rw [tagN_at hq, if_neg (by omega)]
  rw [h0]
  apply List.ext_getElem
  · rw [List.length_set, tagN_len, tagN_len]
  · intro i h1 h2
    rw [tagN_len] at h2
    rw [List.getElem_set]
    have e : ∀ k, (tagN xs k)[i]'(by rw [tagN_len]; exact h2) = if i < k then tagC i (xs.getD i Co.z) else xs.getD i Co.z := fun k => by simp [tagN, h2]
    by_cases hi : q = i
    · subst hi
      rw [if_pos rfl, e, if_pos (by omega)]
      rfl
    · rw [if_neg hi, e, e]
      by_cases hlt : i < q
      · rw [if_pos hlt, if_pos (by omega)]
      · rw [if_neg hlt, if_neg (by omega)]
theorem tagN_name {xs : List Co} {q : Nat} (hq : q < xs.length) : ((tagN xs q).getD q Co.z).name = (xs.getD q Co.z).name := by rw [tagN_at hq, if_neg (by omega)]

end Go.Proofs.YtfcccldofaleoaaGreatDoor

namespace Go.Proofs
open Go.Shelf
def Tryz.layValid_ren : Go.Shelf.Ren := ⟨fun | 196 => 136 | 259 => 160 | n => n, fun | 9 => 9 | 4 => 4 | 3 => 3 | 5 => 5 | 12 => 12 | 119 => 193 | 0 => 0 | 46 => 119 | 139 => 196 | 138 => 195 | 53 => 156 | n => n, fun | 3 => 0 | 4 => 1 | n => n⟩
theorem Tryz.layValid : Go.Proofs.Lays.n196 Tryz.prog Tryz.layValid_ren := {
  mixed := by kernel_rfl
  f196 := Tryz.func136.trans (congrArg some (by kernel_rfl))
  f259 := Tryz.func160.trans (congrArg some (by kernel_rfl))
  t0 := Tryz.underlying0
  a0 := Tryz.isAgg0
  z0 := Tryz.sizeOf0
  v0 := Tryz.zeroValue0
  t3 := Tryz.underlying3
  a3 := Tryz.isAgg3
  z3 := Tryz.sizeOf3
  v3 := Tryz.zeroValue3
  t4 := Tryz.underlying4
  a4 := Tryz.isAgg4
  z4 := Tryz.sizeOf4
  v4 := Tryz.zeroValue4
  t5 := Tryz.underlying5
  a5 := Tryz.isAgg5
  z5 := Tryz.sizeOf5
  v5 := Tryz.zeroValue5
  t9 := Tryz.underlying9
  a9 := Tryz.isAgg9
  z9 := Tryz.sizeOf9
  v9 := Tryz.zeroValue9
  t12 := Tryz.underlying12
  a12 := Tryz.isAgg12
  z12 := Tryz.sizeOf12
  v12 := Tryz.zeroValue12
  t46 := Tryz.underlying119
  a46 := Tryz.isAgg119
  z46 := Tryz.sizeOf119
  v46 := Tryz.zeroValue119
  t53 := Tryz.underlying156
  a53 := Tryz.isAgg156
  z53 := Tryz.sizeOf156
  v53 := Tryz.zeroValue156
  t119 := Tryz.underlying193
  a119 := Tryz.isAgg193
  z119 := Tryz.sizeOf193
  t138 := Tryz.underlying195
  a138 := Tryz.isAgg195
  z138 := Tryz.sizeOf195
  v138 := Tryz.zeroValue195
  t139 := Tryz.underlying196
  a139 := Tryz.isAgg196
  z139 := Tryz.sizeOf196
  v139 := Tryz.zeroValue196
  g3 := by kernel_rfl
  g4 := by kernel_rfl }
end Go.Proofs

namespace Go.Proofs.YtfcccldofaleoaaGreatDoor
open Go.RowKit Go.Shelf

/-- Go's own tables of UTF-8 hold what they should -/
def Tabs (w : World) : Prop := Lib.Utf8Tabs 0 1 w
theorem Tabs.below {w w' : World} (h : Tabs w) (hb : Below w.heap.size w w') : Tabs w' := Utf8Tabs_below h hb
theorem text_Valid (s : ByteArray) (w : World) (hs : s.size ≤ 1099511627776) (hT : Tabs w) : Calls Tryz.prog 115 #[.string s] w (Ret w (.bool (Lib.validD s.data.toList))) := by
  have HV : Hid (∀ W, Tabs W → Calls Tryz.prog 136 #[.string s] W (Ret W (.bool (Lib.validD s.data.toList)))) := hid (fun W h => Any.utf8_ValidString Tryz.layValid s W (by omega) h)
  have HT := hid hT
  clear hT
  generalize Lib.validD s.data.toList = b at *
  go_enter Tryz.func115, Tryz.ntmps115
  go_wp2_with fail
  with_reducible refine (HV.out _ HT.out).mono ?_
  rintro e w1 ⟨rfl, hb⟩
  go_wp2
  go_ret
  exact ⟨rfl, hb⟩

theorem ref_Valid (s : ByteArray) (w : World) (hs : s.size ≤ 1099511627776) (hT : Tabs w) : Calls Tryz.prog 117 #[.string s] w (Ret w (.bool (Lib.validD s.data.toList))) := by
  have HV : Hid (∀ W, Tabs W → Calls Tryz.prog 136 #[.string s] W (Ret W (.bool (Lib.validD s.data.toList)))) := hid (fun W h => Any.utf8_ValidString Tryz.layValid s W (by omega) h)
  have HT := hid hT
  clear hT
  generalize Lib.validD s.data.toList = b at *
  go_enter Tryz.func117, Tryz.ntmps117
  go_wp2_with fail
  with_reducible refine (HV.out _ HT.out).mono ?_
  rintro e w1 ⟨rfl, hb1⟩
  have HB1 := hid hb1
  clear hb1
  go_wp2
  go_ret
  exact ⟨rfl, HB1.out⟩

end Go.Proofs.YtfcccldofaleoaaGreatDoor
