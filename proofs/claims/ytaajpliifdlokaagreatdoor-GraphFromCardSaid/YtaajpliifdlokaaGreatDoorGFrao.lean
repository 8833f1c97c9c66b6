/- Contracts of num.Of and of the reference's Part and Same (at equal fractions). Words for new texts. No program in sight. Words for tables: valid texts, cells, tables; what the types look like. No program in sight. Plain: how many elements two lists can pair, equal with equal. No program in sight. Plain: rows as texts, names, how columns are aligned, rows in common. No program in sight. Plain: operations on tables (chapter 38), as the reference does them. No program in sight. DERIVED: THE SHELF's CONTRACTS AT THIS DUMP, IN PLAIN WORDS (tools/lay-plain.mjs out of 'YtaajpliifdlokaaGreatDoorShVL.lean', which tools/lay-shelf.mjs wrote): THE SAME DECLARATIONS UNDER THE SAME NAMES: 'import', 'namespace', 'open', 'def', 'theorem' AND NOTHING ELSE: no command of the shelf's: FOR A HAND-IN. Each laying: the table of numbers ('.._ren') and one theorem, a field a fact of the dump's own or the kernel's comparison; each contract: ONE APPLICATION. Contracts of text.Valid and the reference's Valid; the tables of UTF-8. Contracts of the reference's checks of tables, at valid ones. -/
import Derived.Test.YtaajpliifdlokaaGreatDoorGFraf
import Derived.Test.YtaajpliifdlokaaGreatDoorGFran
import Derived.Test.YtaajpliifdlokaaGreatDoorGFrab
import Derived.Test.YtaajpliifdlokaaGreatDoorProg
import Derived.Test.YtaajpliifdlokaaGreatDoorGFrag
import Derived.Lib.ValidU
import Derived.Test.YtaajpliifdlokaaGreatDoorGFrah
import Derived.Lib.ItoaNum
import Derived.Shelf.Unicode.ValidAny
set_option linter.unusedVariables false
set_option linter.unusedSimpArgs false
namespace Go.Proofs.YtaajpliifdlokaaGreatDoor.Fr
open Go.RowKit
set_option maxRecDepth 100000 in
set_option maxHeartbeats 4000000 in
theorem num_Of (n d : Nat) (w : World) (hn : n < 9223372036854775808) (hd : 0 < d) (hd2 : d < 4294967296) :
    Calls Tryz.prog 41 #[.int .i64 (n : Int), .int .i64 (d : Int)] w (GivesF w false (n / Nat.gcd n d) (d / Nat.gcd n d)) := by
  have HOF := hid (fun W => frac_Of1 n d W hn hd hd2)
  generalize n / Nat.gcd n d = p at *
  generalize d / Nat.gcd n d = q at *
  go_enter Tryz.func41, Tryz.ntmps41
  go_wp2_with fail
  refine (HOF.out _).mono ?_
  rintro e w3 ⟨a3, c3, a4, c4, rfl, hN, hb3⟩
  have HN := hid hN
  have HB3 := hid hb3
  have hz3 := hb3.size
  have m0 := cell_later hb3 (a := ⟨w.heap.size, 0, none⟩) (v := .bool false) (by go_cell)
  have m1 := cell_later hb3 (a := ⟨w.heap.size, 1, none⟩) (v := .slice none 0 0) (by go_cell)
  have m2 := cell_later hb3 (a := ⟨w.heap.size, 2, none⟩) (v := .bool false) (by go_cell)
  have m3 := cell_later hb3 (a := ⟨w.heap.size, 3, none⟩) (v := .slice none 0 0) (by go_cell)
  have fm0 := frozen_later hb3 (a := ⟨w.heap.size, 0, none⟩) (v := .bool false) (by go_cell) (by simp [go_sem])
  have fm1 := frozen_later hb3 (a := ⟨w.heap.size, 1, none⟩) (v := .slice none 0 0) (by go_cell) (by simp [go_sem])
  have fm2 := frozen_later hb3 (a := ⟨w.heap.size, 2, none⟩) (v := .bool false) (by go_cell) (by simp [go_sem])
  have fm3 := frozen_later hb3 (a := ⟨w.heap.size, 3, none⟩) (v := .slice none 0 0) (by go_cell) (by simp [go_sem])
  clear hN hb3
  simp at hz3
  have hlt : w.heap.size < w3.heap.size := by omega
  have hne : w.heap.size ≠ w3.heap.size := by omega
  go_wp2
  refine bodyPost_ret (by simp [results, Tryz.results41, go_sem, m0, m1, m2, m3, hne, hlt]; rfl) rfl ?_
  exact ⟨a3, c3, a4, c4, by first | rfl | simp, (((((HN.out.setCell (by simp)).setCell (by simp)).setCell (by simp)).setCell (by simp)).kept ((Below.refl _ _).alloc (Nat.le_refl _) _)).mono (by simp), by have h3 := HB3.out; repeat' (first | (with_reducible exact Below.refl _ _) | (with_reducible assumption) | (with_reducible refine below_drewN ?_) | (with_reducible refine Below.alloc ?_ ?_ _) | (with_reducible refine Below.drew ?_) | (with_reducible refine Below.setCell ?_ ?_ _) | (with_reducible refine Below.trans ?_ (Below.mono (by with_reducible assumption) ?_)) | go_size)⟩
set_option maxRecDepth 100000 in
set_option maxHeartbeats 4000000 in
theorem ref_Part (n d : Nat) (w : World) (hn : n < 9223372036854775808) (hd : 0 < d) (hd2 : d < 9223372036854775808) :
    Calls Tryz.prog 12 #[.int .i64 (n : Int), .int .i64 (d : Int)] w (GivesF w false (n / Nat.gcd n d) (d / Nat.gcd n d)) := by
  have HOF := hid (fun W => ref_Of n d W hn hd hd2)
  generalize n / Nat.gcd n d = p at *
  generalize d / Nat.gcd n d = q at *
  go_enter Tryz.func12, Tryz.ntmps12
  go_wp2_with fail
  refine (HOF.out _).mono ?_
  rintro e w3 ⟨a3, c3, a4, c4, rfl, hN, hb3⟩
  have HN := hid hN
  have HB3 := hid hb3
  have hz3 := hb3.size
  have m0 := cell_later hb3 (a := ⟨w.heap.size, 0, none⟩) (v := .bool false) (by go_cell)
  have m1 := cell_later hb3 (a := ⟨w.heap.size, 1, none⟩) (v := .slice none 0 0) (by go_cell)
  have m2 := cell_later hb3 (a := ⟨w.heap.size, 2, none⟩) (v := .bool false) (by go_cell)
  have m3 := cell_later hb3 (a := ⟨w.heap.size, 3, none⟩) (v := .slice none 0 0) (by go_cell)
  have fm0 := frozen_later hb3 (a := ⟨w.heap.size, 0, none⟩) (v := .bool false) (by go_cell) (by simp [go_sem])
  have fm1 := frozen_later hb3 (a := ⟨w.heap.size, 1, none⟩) (v := .slice none 0 0) (by go_cell) (by simp [go_sem])
  have fm2 := frozen_later hb3 (a := ⟨w.heap.size, 2, none⟩) (v := .bool false) (by go_cell) (by simp [go_sem])
  have fm3 := frozen_later hb3 (a := ⟨w.heap.size, 3, none⟩) (v := .slice none 0 0) (by go_cell) (by simp [go_sem])
  clear hN hb3
  simp at hz3
  have hlt : w.heap.size < w3.heap.size := by omega
  have hne : w.heap.size ≠ w3.heap.size := by omega
  go_wp2
  refine bodyPost_ret (by simp [results, Tryz.results12, go_sem, m0, m1, m2, m3, hne, hlt]; rfl) rfl ?_
  exact ⟨a3, c3, a4, c4, by first | rfl | simp, (((((HN.out.setCell (by simp)).setCell (by simp)).setCell (by simp)).setCell (by simp)).kept ((Below.refl _ _).alloc (Nat.le_refl _) _)).mono (by simp), by have h3 := HB3.out; repeat' (first | (with_reducible exact Below.refl _ _) | (with_reducible assumption) | (with_reducible refine below_drewN ?_) | (with_reducible refine Below.alloc ?_ ?_ _) | (with_reducible refine Below.drew ?_) | (with_reducible refine Below.setCell ?_ ?_ _) | (with_reducible refine Below.trans ?_ (Below.mono (by with_reducible assumption) ?_)) | go_size)⟩
end Go.Proofs.YtaajpliifdlokaaGreatDoor.Fr

namespace Go.Proofs.YtaajpliifdlokaaGreatDoor
open Go.RowKit
def RdS (w : World) (B : Nat) (v : Value) (xs : List ByteArray) : Prop := Rd w B v xs.length (strF xs)
def GivesS (w : World) (xs : List ByteArray) (e : Ending) (w' : World) : Prop :=
  ∃ a c, e = .returned (.slice a xs.length c) ∧ w'.ownsRow w.heap.size 9 1 (.slice a xs.length c) xs.length (xs.map Value.string) ∧ Below w.heap.size w w'
theorem own_at {w w' : World} {base : Nat} {e : TypeId} {k n : Nat} {v : Value} {L : List Value} (h : w.ownsRow base e k v n L) (hb : ∀ b, v.ownBlock = some b → w'.heap[b]? = w.heap[b]?) : w'.ownsRow base e k v n L := by
  refine ⟨h.1, ?_⟩
  rcases h.2 with h1 | ⟨g, cap, cur, rfl, h2, h3, rest⟩
  · exact .inl h1
  · exact .inr ⟨g, cap, cur, rfl, h2, (hb g rfl).trans h3, rest⟩
theorem own_later {w w' : World} {base : Nat} {e : TypeId} {k n : Nat} {v : Value} {L : List Value} (h : w.ownsRow base e k v n L) (hb : Below w.heap.size w w') : w'.ownsRow base e k v n L :=
  own_at h fun b hbb => hb.block b (h.lt b hbb).2
end Go.Proofs.YtaajpliifdlokaaGreatDoor

namespace Go.Proofs.YtaajpliifdlokaaGreatDoor
open Go.RowKit
def TextOk (n : Nat) (s : ByteArray) : Prop := s.size ≤ n ∧ Lib.validD s.data.toList = true
def CellOk (c : Cl) : Prop := (c.null = true → c.text = ⟨#[]⟩) ∧ TextOk 8 c.text
theorem cellOk_null : CellOk ⟨true, ⟨#[]⟩⟩ := by unfold CellOk TextOk; decide +kernel
theorem cellOk_text {s : ByteArray} (h : TextOk 8 s) : CellOk ⟨false, s⟩ := ⟨(fun h => by cases h), h⟩
theorem TextOk.more {m n : Nat} {s : ByteArray} (h : TextOk m s) (hn : m ≤ n) : TextOk n s := ⟨Nat.le_trans h.1 hn, h.2⟩
theorem info_cell : (Tryz.prog.info? 84).map (fun i => (i.zero, i.size, i.bytes)) = some (some (.agg #[.bool false, .string ⟨#[]⟩]), 2, 24) := by kernel_rfl
theorem info_col : (Tryz.prog.info? 55).map (fun i => (i.zero, i.size, i.bytes)) = some (some (.agg #[.string ⟨#[]⟩, .slice none 0 0]), 2, 40) := by kernel_rfl
theorem info_tab : (Tryz.prog.info? 51).map (fun i => (i.zero, i.size, i.bytes)) = some (some (.agg #[.int .i64 0, .string ⟨#[]⟩, .slice none 0 0]), 3, 48) := by kernel_rfl
def TabV (t : Ta) : Prop := 0 ≤ t.id ∧ t.id ≤ 1073741824 ∧ TextOk 1024 t.name ∧ t.cols.length ≤ 64 ∧ ∃ n, n ≤ 4096 ∧ ∀ x ∈ t.cols, TextOk 1024 x.name ∧ x.cells.length = n ∧ ∀ c ∈ x.cells, CellOk c
theorem getD_mem {α : Type} {l : List α} {i : Nat} (h : i < l.length) (d : α) : l.getD i d ∈ l := by simp [List.getD, h]
def ListV (ts : List Ta) : Prop := ts.length ≤ 1024 ∧ (∀ t ∈ ts, TabV t) ∧ ts.Pairwise (fun a b => a.id < b.id)
theorem ids_up {ts : List Ta} (h : ts.Pairwise (fun a b => a.id < b.id)) {i j : Nat} (hij : i < j) (hj : j < ts.length) : (ts.getD i Ta.z).id < (ts.getD j Ta.z).id := by
  have h1 := List.pairwise_iff_getElem.1 h i j (by omega) hj hij
  simpa [List.getD, hj, show i < ts.length by omega] using h1
def rowsC (xs : List Co) : Nat := (xs.getD 0 Co.z).cells.length
end Go.Proofs.YtaajpliifdlokaaGreatDoor

namespace Go.Proofs.YtaajpliifdlokaaGreatDoor
section
variable {α β : Type} [DecidableEq α] [DecidableEq β]
def comL : List α → List α → Nat
  | [], _ => 0
  | x :: A, B => if x ∈ B then comL A (B.erase x) + 1 else comL A B
end
def minSum (N : Nat) (f g : Nat → Nat) : Nat := ((List.range N).map fun i => min (f i) (g i)).sum
end Go.Proofs.YtaajpliifdlokaaGreatDoor
namespace Go.Proofs.YtaajpliifdlokaaGreatDoor
open Go.RowKit
instance clEq : DecidableEq Cl := fun a b =>
  if h : a.null = b.null ∧ a.text = b.text then .isTrue (by cases a; cases b; simp at h; simp [h]) else .isFalse (by rintro rfl; exact h ⟨rfl, rfl⟩)
def encC (c : Cl) : List UInt8 := if c.null = true then [45] else Lib.decDigits c.text.size ++ [58] ++ c.text.data.toList
def encR (r : List Cl) : List UInt8 := r.flatMap encC
def Cell1 (c : Cl) : Prop := (c.null = true → c.text = ⟨#[]⟩) ∧ c.text.size ≤ 1024
def namesL (xs : List Co) : List ByteArray := xs.map Co.name
def idxP : List ByteArray → ByteArray → Nat
  | [], _ => 0
  | x :: l, s => if x = s then 0 else idxP l s + 1
def idxN (xs : List Co) (s : ByteArray) : Nat := idxP (namesL xs) s
def alignL (a b : List Co) : List Nat := (namesL a).map (idxN b)
def Aligns (a b : List Co) : Prop := (namesL a).Nodup ∧ (namesL b).Nodup ∧ (namesL a).Perm (namesL b)
instance (a b : List Co) : Decidable (Aligns a b) := by unfold Aligns; exact inferInstance
def cellAt (xs : List Co) (k i : Nat) : Cl := (xs.getD k Co.z).cells.getD i Cl.z
def rowAt (xs : List Co) (al : List Nat) (i : Nat) : List Cl := al.map fun k => cellAt xs k i
def rowsOf (xs : List Co) (al : List Nat) (n : Nat) : List (List Cl) := (List.range n).map (rowAt xs al)
def ownL (xs : List Co) : List Nat := List.range xs.length
def rowsN (xs : List Co) : Nat := (xs.getD 0 Co.z).cells.length
def commonL (a b : List Co) : Nat := if Aligns a b then comL (rowsOf a (ownL a) (rowsN a)) (rowsOf b (alignL a b) (rowsN b)) else 0
theorem Aligns.symm {a b : List Co} (h : Aligns a b) : Aligns b a := ⟨h.2.1, h.1, h.2.2.symm⟩
theorem Aligns.len {a b : List Co} (h : Aligns a b) : a.length = b.length := by
  have := h.2.2.length_eq
  simpa [namesL] using this
def perL (p : List Nat) (r : List Cl) : List Cl := p.map fun k => r.getD k Cl.z
end Go.Proofs.YtaajpliifdlokaaGreatDoor

namespace Go.Proofs.YtaajpliifdlokaaGreatDoor
open Go.RowKit
structure Po where
  kind : Int
  col : Int
  text : ByteArray
  cols : List Int
def Po.val (o : Po) (v : Value) : Value := .agg #[.int .i64 o.kind, .int .i64 o.col, .string o.text, v]
def cmpC (a b : Cl) : Int := if a.null = true ∧ b.null = true then 0 else if a.null = true then -1 else if b.null = true then 1 else if sl a.text b.text = true then -1 else if a.text = b.text then 0 else 1
def thereL (n : Nat) (k : Int) : Bool := decide (0 ≤ k) && decide (k < n)
def canL (n : Nat) (o : Po) : Bool :=
  if o.kind = 1 then thereL n o.col && decide (o.cols.length = 0) && decide (o.text.size ≤ 1024)
  else if o.kind = 2 ∨ o.kind = 5 then thereL n o.col && decide (o.cols.length = 0) && decide (o.text.size = 0)
  else if o.kind = 3 then o.cols.all (thereL n) && (decide (o.col = 0) && decide (o.text.size = 0) && decide (o.cols.length ≤ 64))
  else decide (o.kind = 4) && decide (o.col = 0) && decide (o.text.size = 0) && decide (o.cols.length = 0)
def eqRow (xs : List Co) (x y : Nat) : Bool := xs.all fun c => decide (c.cells.getD x Cl.z = c.cells.getD y Cl.z)
def keepL (xs : List Co) (o : Po) (out : List Nat) (r : Nat) : Bool :=
  if o.kind = 1 then !(cellAt xs o.col.toNat r).null && decide ((cellAt xs o.col.toNat r).text = o.text)
  else if o.kind = 2 then !(cellAt xs o.col.toNat r).null
  else if o.kind = 4 then out.all fun x => !eqRow xs x r
  else true
def sortAt (f : Nat → Bool) (out : List Nat) : Nat → Nat
  | 0 => 0
  | k + 1 => if f (out.getD k 0) = true then sortAt f out k else k + 1
def gtC (xs : List Co) (c r x : Nat) : Bool := decide (0 < cmpC (cellAt xs c x) (cellAt xs c r))
def atL (xs : List Co) (o : Po) (out : List Nat) (r : Nat) : Nat := if o.kind = 5 then sortAt (gtC xs o.col.toNat r) out out.length else out.length
def stepL (xs : List Co) (o : Po) (out : List Nat) (r : Nat) : List Nat := if keepL xs o out r = true then out.take (atL xs o out r) ++ r :: out.drop (atL xs o out r) else out
def rowsL (xs : List Co) (o : Po) (n : Nat) : List Nat := (List.range n).foldl (stepL xs o) []
def projL (xs : List Co) (ks : List Int) : List Co := ks.map fun k => xs.getD k.toNat Co.z
def pickC (c : Co) (rs : List Nat) : Co := ⟨c.name, rs.map fun r => c.cells.getD r Cl.z⟩
def selL (xs : List Co) (rs : List Nat) : List Co := xs.map fun c => pickC c rs
def doL (xs : List Co) (o : Po) : List Co := if o.kind = 3 then projL xs o.cols else selL xs (rowsL xs o (rowsC xs))
theorem sortAt_le (f : Nat → Bool) (out : List Nat) : ∀ k, sortAt f out k ≤ k
  | 0 => Nat.le_refl _
  | k + 1 => by
    unfold sortAt
    split
    · exact Nat.le_succ_of_le (sortAt_le f out k)
    · exact Nat.le_refl _
theorem atL_le (xs : List Co) (o : Po) (out : List Nat) (r : Nat) : atL xs o out r ≤ out.length := by
  unfold atL
  split
  · exact sortAt_le _ _ _
  · exact Nat.le_refl _
theorem stepL_len (xs : List Co) (o : Po) (out : List Nat) (r : Nat) : (stepL xs o out r).length ≤ out.length + 1 := by
  unfold stepL
  split
  · have := atL_le xs o out r
    simp
    omega
  · omega
theorem stepL_mem {xs : List Co} {o : Po} {out : List Nat} {r x : Nat} (h : x ∈ stepL xs o out r) : x ∈ out ∨ x = r := by
  unfold stepL at h
  split at h
  · rcases List.mem_append.1 h with h | h
    · exact .inl (List.mem_of_mem_take h)
    · rcases List.mem_cons.1 h with h | h
      · exact .inr h
      · exact .inl (List.mem_of_mem_drop h)
  · exact .inl h
theorem rowsL_succ (xs : List Co) (o : Po) (n : Nat) : rowsL xs o (n + 1) = stepL xs o (rowsL xs o n) n := by simp [rowsL, List.range_succ]
theorem rowsL_ok (xs : List Co) (o : Po) : ∀ n, (rowsL xs o n).length ≤ n ∧ ∀ x ∈ rowsL xs o n, x < n
  | 0 => ⟨Nat.le_refl _, fun x h => by cases h⟩
  | n + 1 => by
    obtain ⟨h1, h2⟩ := rowsL_ok xs o n
    rw [rowsL_succ]
    refine ⟨Nat.le_trans (stepL_len _ _ _ _) (by omega), fun x hx => ?_⟩
    rcases stepL_mem hx with h | rfl
    · have := h2 x h; omega
    · omega
def ColsV (xs : List Co) (n : Nat) : Prop := ∀ x ∈ xs, TextOk 1024 x.name ∧ x.cells.length = n ∧ ∀ c ∈ x.cells, CellOk c
theorem TabV.cv {t : Ta} (h : TabV t) : ∃ n, n ≤ 4096 ∧ ColsV t.cols n := h.2.2.2.2
theorem sel_ok {xs : List Co} {n : Nat} (h : ColsV xs n) {rs : List Nat} (hr : ∀ r ∈ rs, r < n) : ColsV (selL xs rs) rs.length := by
  intro x hx
  obtain ⟨c, hc, rfl⟩ := List.mem_map.1 hx
  obtain ⟨h1, h2, h3⟩ := h c hc
  refine ⟨h1, by simp [pickC], fun d hd => ?_⟩
  obtain ⟨r, hrr, rfl⟩ := List.mem_map.1 hd
  have : r < c.cells.length := by rw [h2]; exact hr r hrr
  exact h3 _ (by rw [List.getD, List.getElem?_eq_getElem this]; exact List.getElem_mem this)
theorem proj_ok {xs : List Co} {n : Nat} (h : ColsV xs n) {ks : List Int} (hk : ks.all (thereL xs.length) = true) : ColsV (projL xs ks) n := by
  intro x hx
  obtain ⟨k, hkk, rfl⟩ := List.mem_map.1 hx
  have h1 := List.all_eq_true.1 hk k hkk
  unfold thereL at h1
  simp at h1
  have : k.toNat < xs.length := by omega
  exact h _ (by rw [List.getD, List.getElem?_eq_getElem this]; exact List.getElem_mem this)
theorem rowsC_of {xs : List Co} {n : Nat} (h : ColsV xs n) (hp : 0 < xs.length) : rowsC xs = n := by
  unfold rowsC
  refine (h _ ?_).2.1
  rw [List.getD, List.getElem?_eq_getElem hp]
  exact List.getElem_mem hp
end Go.Proofs.YtaajpliifdlokaaGreatDoor

namespace Go.Proofs
open Go.Shelf
def Tryz.layValid_ren : Go.Shelf.Ren := ⟨fun | 196 => 225 | 259 => 253 | n => n, fun | 9 => 9 | 4 => 4 | 3 => 3 | 5 => 5 | 12 => 12 | 119 => 265 | 0 => 0 | 46 => 135 | 139 => 268 | 138 => 267 | 53 => 157 | n => n, fun | 3 => 1 | 4 => 2 | n => n⟩
theorem Tryz.layValid : Go.Proofs.Lays.n196 Tryz.prog Tryz.layValid_ren := {
  mixed := by kernel_rfl
  f196 := Tryz.func225.trans (congrArg some (by kernel_rfl))
  f259 := Tryz.func253.trans (congrArg some (by kernel_rfl))
  t0 := Tryz.underlying0
  a0 := Tryz.isAgg0
  z0 := Tryz.sizeOf0
  v0 := Tryz.zeroValue0
  t3 := Tryz.underlying3
  a3 := Tryz.isAgg3
  z3 := Tryz.sizeOf3
  v3 := Tryz.zeroValue3
  t4 := Tryz.underlying4
  a4 := Tryz.isAgg4
  z4 := Tryz.sizeOf4
  v4 := Tryz.zeroValue4
  t5 := Tryz.underlying5
  a5 := Tryz.isAgg5
  z5 := Tryz.sizeOf5
  v5 := Tryz.zeroValue5
  t9 := Tryz.underlying9
  a9 := Tryz.isAgg9
  z9 := Tryz.sizeOf9
  v9 := Tryz.zeroValue9
  t12 := Tryz.underlying12
  a12 := Tryz.isAgg12
  z12 := Tryz.sizeOf12
  v12 := Tryz.zeroValue12
  t46 := Tryz.underlying135
  a46 := Tryz.isAgg135
  z46 := Tryz.sizeOf135
  v46 := Tryz.zeroValue135
  t53 := Tryz.underlying157
  a53 := Tryz.isAgg157
  z53 := Tryz.sizeOf157
  v53 := Tryz.zeroValue157
  t119 := Tryz.underlying265
  a119 := Tryz.isAgg265
  z119 := Tryz.sizeOf265
  t138 := Tryz.underlying267
  a138 := Tryz.isAgg267
  z138 := Tryz.sizeOf267
  v138 := Tryz.zeroValue267
  t139 := Tryz.underlying268
  a139 := Tryz.isAgg268
  z139 := Tryz.sizeOf268
  v139 := Tryz.zeroValue268
  g3 := by kernel_rfl
  g4 := by kernel_rfl }
end Go.Proofs

namespace Go.Proofs.YtaajpliifdlokaaGreatDoor
open Go.RowKit Go.Shelf
def Tabs (w : World) : Prop := Lib.Utf8Tabs 1 2 w
theorem Tabs.below {w w' : World} (h : Tabs w) (hb : Below w.heap.size w w') : Tabs w' := Utf8Tabs_below h hb
theorem text_Valid (s : ByteArray) (w : World) (hs : s.size ≤ 1099511627776) (hT : Tabs w) : Calls Tryz.prog 198 #[.string s] w (Ret w (.bool (Lib.validD s.data.toList))) := by
  have HV : Hid (∀ W, Tabs W → Calls Tryz.prog 225 #[.string s] W (Ret W (.bool (Lib.validD s.data.toList)))) := hid (fun W h => Any.utf8_ValidString Tryz.layValid s W (by omega) h)
  have HT := hid hT
  clear hT
  generalize Lib.validD s.data.toList = b at *
  go_enter Tryz.func198, Tryz.ntmps198
  go_wp2_with fail
  with_reducible refine (HV.out _ HT.out).mono ?_
  rintro e w1 ⟨rfl, hb⟩
  go_wp2
  go_ret
  exact ⟨rfl, hb⟩
theorem ref_Valid (s : ByteArray) (w : World) (hs : s.size ≤ 1099511627776) (hT : Tabs w) : Calls Tryz.prog 181 #[.string s] w (Ret w (.bool (Lib.validD s.data.toList))) := by
  have HV : Hid (∀ W, Tabs W → Calls Tryz.prog 225 #[.string s] W (Ret W (.bool (Lib.validD s.data.toList)))) := hid (fun W h => Any.utf8_ValidString Tryz.layValid s W (by omega) h)
  have HT := hid hT
  clear hT
  generalize Lib.validD s.data.toList = b at *
  go_enter Tryz.func181, Tryz.ntmps181
  go_wp2_with fail
  with_reducible refine (HV.out _ HT.out).mono ?_
  rintro e w1 ⟨rfl, hb1⟩
  have HB1 := hid hb1
  clear hb1
  go_wp2
  go_ret
  exact ⟨rfl, HB1.out⟩
end Go.Proofs.YtaajpliifdlokaaGreatDoor

namespace Go.Proofs.YtaajpliifdlokaaGreatDoor
open Go.RowKit
theorem ref_name (s : ByteArray) (w : World) (h : TextOk 1024 s) (hT : Tabs w) : Calls Tryz.prog 107 #[.string s] w (Ret w (.bool true)) := by
  have HV := hid (ref_Valid s w (by have := h.1; omega) hT)
  rw [h.2] at HV
  have hs := h.1
  clear h hT
  go_enter Tryz.func107, Tryz.ntmps107
  go_wp2_with fail
  with_reducible refine HV.out.mono ?_
  rintro e w1 ⟨rfl, hb⟩
  have HB := hid hb
  clear hb
  go_wp2
  go_ret
  exact ⟨ret_bool (decide_eq_true (by omega)), HB.out⟩
set_option maxHeartbeats 400000 in
theorem ref_ValidCell (c : Cl) (w : World) (hc : CellOk c) (hT : Tabs w) : Calls Tryz.prog 108 #[.agg #[.bool c.null, .string c.text]] w (Ret w (.bool true)) := by
  obtain ⟨n, t⟩ := c
  obtain ⟨hn, ht, hv⟩ := hc
  have hb0 : Below w.heap.size w (w.alloc (.cells #[.bool n, .string t] 84)) := (Below.refl _ _).alloc (Nat.le_refl _) _
  have HV := hid (ref_Valid t (w.alloc (.cells #[.bool n, .string t] 84)) (by simp at ht; omega) (hT.below hb0))
  simp only at hv ht hn
  rw [hv] at HV
  have hx := BoxN.new w #[.bool n, .string t] 84
  have HB0 := hid hb0
  clear hT hb0 hv
  cases n
  · clear hn
    go_enter Tryz.func108, Tryz.ntmps108
    go_wp2_with fail
    with_reducible refine HV.out.mono ?_
    rintro e w1 ⟨rfl, hb⟩
    have hx1 := hx.below hb (by simp)
    have c0 := hx1.cell 0 rfl
    have c1 := hx1.cell 1 rfl
    have HB := hid (HB0.out.trans (hb.mono (by simp)))
    clear hb hx1 hx
    go_wp2
    go_ret
    exact ⟨rfl, HB.out⟩
  · obtain rfl := hn rfl
    go_enter Tryz.func108, Tryz.ntmps108
    go_wp2_with fail
    with_reducible refine HV.out.mono ?_
    rintro e w1 ⟨rfl, hb⟩
    have hx1 := hx.below hb (by simp)
    have c0 := hx1.cell 0 rfl
    have c1 := hx1.cell 1 rfl
    have HB := hid (HB0.out.trans (hb.mono (by simp)))
    clear hb hx1 hx hn
    go_wp2
    go_ret
    exact ⟨rfl, HB.out⟩
set_option maxRecDepth 100000 in
set_option maxHeartbeats 2000000 in
theorem ref_ValidTab (t : Ta) (v : Value) (B : Nat) (w : World) (ht : TabV t) (hv : RdCo w (· < B) v t.cols) (hB : B ≤ w.heap.size) (hT : Tabs w) :
  Calls Tryz.prog 66 #[.agg #[.int .i64 t.id, .string t.name, v]] w (Ret w (.bool true)) := by
 obtain ⟨id, nm, xs⟩ := t
 obtain ⟨h0, h1, hnm, hxs, n, hn, hcs⟩ := ht
 simp only at h0 h1 hnm hxs hcs hv
 obtain ⟨cv, hcv, hcl⟩ := hv
 obtain ⟨a, k, rfl, hk, hm, hrd⟩ := hcv
 have hb0 : Below w.heap.size w (w.alloc (.cells #[.int .i64 id, .string nm, .slice a xs.length k] 51)) := (Below.refl _ _).alloc (Nat.le_refl _) _
 have HN := hid (ref_name nm (w.alloc (.cells #[.int .i64 id, .string nm, .slice a xs.length k] 51)) hnm (hT.below hb0))
 have hx := BoxN.new w #[.int .i64 id, .string nm, .slice a xs.length k] 51
 have HB0 := hid hb0
 have HT := hid hT
 have HRD := hid hrd
 have HCL := hid hcl
 have HCS := hid hcs
 clear hb0 hT hrd hcl hcs hnm
 generalize hxl : xs.length = L at *
 have HXL := hid hxl
 clear hxl
 unfold maxLen at hm
 go_enter Tryz.func66, Tryz.ntmps66
 generalize hLA : Code.loop _ = LA
 go_wp2_with fail
 with_reducible refine HN.out.mono ?_
 rintro e w1 ⟨rfl, hb⟩
 have hx1 := hx.below hb (by simp)
 have c0 := hx1.cell 0 rfl
 have c1 := hx1.cell 1 rfl
 have c2 := hx1.cell 2 rfl
 have HX1 := hid hx1
 have HB1 := hid (HB0.out.trans (hb.mono (by simp)))
 have hz1 := hx1.lt
 clear hb hx1 hx HN
 go_wp2_with fail
 clear c0 c1 c2
 subst hLA
 go_loopg [30] L (fun N i wr => ∃ q : Nat, q + N = L ∧ i = .int .i64 (q : Int) ∧ Hid (Below w1.heap.size w1 wr))
 case atStart => exact ⟨0, by omega, rfl, hid (Below.refl _ _)⟩
 case round =>
  obtain ⟨q, hq, rfl, HB⟩ := hrel
  by_cases hp : 0 < gk
  ·obtain ⟨b, o, rfl, hb, hcell⟩ := HRD.out (by omega)
   have hbw : b < w.heap.size := by omega
   have HBW := hid (HB1.out.trans (HB.out.mono HB1.out.size))
   have hwz := HBW.out.size
   have hwz1 := HB.out.size
   obtain ⟨hxn, hxl, hxc⟩ := HCS.out _ (getD_mem (l := xs) (i := q) (by have := HXL.out; omega) Co.z)
   obtain ⟨-, hxl0, -⟩ := HCS.out _ (getD_mem (l := xs) (i := 0) (by have := HXL.out; omega) Co.z)
   have HRQ := hid (HCL.out q (by omega))
   obtain ⟨ca, ck, hcq, -, -, -⟩ := HCL.out q (by omega)
   obtain ⟨ca0, ck0, hc0, -, -, -⟩ := HCL.out 0 (by omega)
   rw [hxl] at hcq
   rw [hxl0] at hc0
   have k0 : wr.cell? ⟨b, o + q * 2, none⟩ = some (.string (xs.getD q Co.z).name) := (HBW.out.cell (p := ⟨b, o + q * 2, none⟩) hbw).trans (hcell q (by omega) 0 (by omega))
   have k1 : wr.cell? ⟨b, o + q * 2 + 1, none⟩ = some (cv q) := (HBW.out.cell (p := ⟨b, o + q * 2 + 1, none⟩) hbw).trans (hcell q (by omega) 1 (by omega))
   have k2 : wr.cell? ⟨b, o + 1, none⟩ = some (cv 0) := (HBW.out.cell (p := ⟨b, o + 1, none⟩) hbw).trans (by have := hcell 0 (by omega) 1 (by omega); simp only [Nat.zero_mul, Nat.add_zero] at this; exact this)
   have k3 := (HX1.out.below HB.out hz1).cell 2 rfl
   rw [hcq] at k1
   rw [hc0] at k2
   rw [hcq] at HRQ
   have HXN := hid hxn
   have HXC := hid hxc
   have HXL2 := hid hxl
   clear hcell hcq hc0 hxl0 hxn hxc hxl
   generalize xs.getD q Co.z = x at *
   obtain ⟨xn, xc⟩ := x
   have HNM := hid (fun W h => ref_name xn W HXN.out h)
   have HCC := hid (fun c h W hW => ref_ValidCell c W (HXC.out c h) hW)
   have n0 : ∀ O : Obj, (wr.alloc O).cell? ⟨b, o + 1, none⟩ = some (.slice ca0 n ck0) := fun O => (World.cell?_alloc_lt _ _ _ (by show b < _; omega)).trans k2
   have n1 : ∀ O : Obj, (wr.alloc O).cell? ⟨w.heap.size, 2, none⟩ = some (.slice (some ⟨b, o, none⟩) L k) := fun O => (World.cell?_alloc_lt _ _ _ (by show w.heap.size < _; omega)).trans k3
   have n2 := n0 (.cells #[.string xn, .slice ca n ck] 55)
   have n3 := n1 (.cells #[.string xn, .slice ca n ck] 55)
   clear n0 n1
   have hd : decide ((4096 : Int) < (n : Int)) = false := by simp; omega
   have hL0 : 0 < L := by omega
   have hL1 : (0 : Int) < (L : Int) := by omega
   have hL2 : L ≠ 0 := by omega
   go_wp2_with fail
   go_region_held3 (fun w' => w'.cell? ⟨wr.heap.size, 0, none⟩ = some (.string xn) ∧ w'.cell? ⟨wr.heap.size, 1, none⟩ = some (.slice ca n ck) ∧ w'.cell? ⟨b, o + 1, none⟩ = some (.slice ca0 n ck0) ∧ w'.cell? ⟨w.heap.size, 2, none⟩ = some (.slice (some ⟨b, o, none⟩) L k))
    (first | exact ⟨o0, o1, o2, o3⟩ | go_keep)
    (first
     | (go_at_call 107; go_must (((with_reducible refine (HNM.out _ (HT.out.below (by have := HBW.out; repeat' (first | (with_reducible exact Below.refl _ _) | (with_reducible assumption) | (with_reducible refine below_drewN ?_) | (with_reducible refine Below.alloc ?_ ?_ _) | (with_reducible refine Below.drew ?_) | (with_reducible refine Below.setCell ?_ ?_ _) | (with_reducible refine Below.trans ?_ (Below.mono (by with_reducible assumption) ?_)) | go_size)))).mono ?_); rintro e w5 ⟨rfl, hb5⟩; have o0 := cell_later hb5 (a := ⟨wr.heap.size, 0, none⟩) (v := .string xn) (by go_cell); have o1 := cell_later hb5 (a := ⟨wr.heap.size, 1, none⟩) (v := .slice ca n ck) (by go_cell); have o2 := cell_later hb5 (a := ⟨b, o + 1, none⟩) (v := .slice ca0 n ck0) (by go_cell); have o3 := cell_later hb5 (a := ⟨w.heap.size, 2, none⟩) (v := .slice (some ⟨b, o, none⟩) L k) (by go_cell)))))
   have HB5 : Hid (Below wr.heap.size wr w5) := hid (by repeat' (first | (with_reducible exact Below.refl _ _) | (with_reducible assumption) | (with_reducible refine below_drewN ?_) | (with_reducible refine Below.alloc ?_ ?_ _) | (with_reducible refine Below.drew ?_) | (with_reducible refine Below.setCell ?_ ?_ _) | (with_reducible refine Below.trans ?_ (Below.mono (by with_reducible assumption) ?_)) | go_size))
   have HBW5 := hid (HBW.out.trans (HB5.out.mono hwz))
   have HBI := hid (HB.out.trans (HB5.out.mono hwz1))
   have hz5 := HB5.out.size
   clear hb5 o0 o2 o3 n2 n3 k0 k1 k2 k3 hd
   obtain ⟨wo, rfl⟩ : ∃ wo, wo = wr := ⟨wr, rfl⟩
   obtain ⟨ko, rfl⟩ : ∃ ko, ko = gk := ⟨gk, rfl⟩
   obtain ⟨ca', ck', hce, -, -, hrc⟩ := HRQ.out
   simp only at hrc hce
   rw [HXL2.out] at hrc hce
   obtain ⟨rfl, -, rfl⟩ := Value.slice.inj hce
   have HRC := hid hrc
   clear hrc hce HRQ
   go_wp2_with fail
   go_loopg [59] n (fun N i W => ∃ j : Nat, j + N = n ∧ i = .int .i64 (j : Int) ∧ Hid (Below w5.heap.size w5 W))
   case atStart => exact ⟨0, by omega, rfl, hid (by have := Below.refl w5.heap.size w5; repeat' (first | (with_reducible exact Below.refl _ _) | (with_reducible assumption) | (with_reducible refine below_drewN ?_) | (with_reducible refine Below.alloc ?_ ?_ _) | (with_reducible refine Below.drew ?_) | (with_reducible refine Below.setCell ?_ ?_ _) | (with_reducible refine Below.trans ?_ (Below.mono (by with_reducible assumption) ?_)) | go_size))⟩
   case round =>
    obtain ⟨j, hj, rfl, HBJ⟩ := hrel
    by_cases hpj : 0 < gk
    ·obtain ⟨b2, o2, rfl, hb2, hcell2⟩ := HRC.out (by omega)
     have hbw2 : b2 < w.heap.size := by omega
     have hjz := HBJ.out.size
     have HBWJ := hid (HBW5.out.trans (HBJ.out.mono HBW5.out.size))
     have k0 : wr.cell? ⟨b2, o2 + j * 2, none⟩ = some (.bool (xc.getD j Cl.z).null) := (HBWJ.out.cell (p := ⟨b2, o2 + j * 2, none⟩) hbw2).trans (hcell2 j (by omega) 0 (by omega))
     have k1 : wr.cell? ⟨b2, o2 + j * 2 + 1, none⟩ = some (.string (xc.getD j Cl.z).text) := (HBWJ.out.cell (p := ⟨b2, o2 + j * 2 + 1, none⟩) hbw2).trans (hcell2 j (by omega) 1 (by omega))
     have HCJ := hid (HCC.out _ (getD_mem (l := xc) (i := j) (by have h : xc.length = n := HXL2.out; omega) Cl.z))
     clear hcell2
     generalize xc.getD j Cl.z = c at *
     obtain ⟨cn, ct⟩ := c
     go_wp2_with fail
     with_reducible refine (HCJ.out _ (HT.out.below (by have := HBWJ.out; repeat' (first | (with_reducible exact Below.refl _ _) | (with_reducible assumption) | (with_reducible refine below_drewN ?_) | (with_reducible refine Below.alloc ?_ ?_ _) | (with_reducible refine Below.drew ?_) | (with_reducible refine Below.setCell ?_ ?_ _) | (with_reducible refine Below.trans ?_ (Below.mono (by with_reducible assumption) ?_)) | go_size)))).mono ?_
     rintro e w6 ⟨rfl, hb6⟩
     have HB6 : Hid (Below wr.heap.size wr w6) := hid (by repeat' (first | (with_reducible exact Below.refl _ _) | (with_reducible assumption) | (with_reducible refine below_drewN ?_) | (with_reducible refine Below.alloc ?_ ?_ _) | (with_reducible refine Below.drew ?_) | (with_reducible refine Below.setCell ?_ ?_ _) | (with_reducible refine Below.trans ?_ (Below.mono (by with_reducible assumption) ?_)) | go_size))
     clear hb6 k0 k1
     go_wp2_with fail
     go_roundg (gk - 1)
     case rel => exact ⟨j + 1, by omega, by go_num, hid (HBJ.out.trans (HB6.out.mono hjz))⟩
     case measure => omega
    ·obtain rfl : j = n := by omega
     go_wp2_with fail
     go_roundg (ko - 1)
     case rel => exact ⟨q + 1, by omega, by go_num, hid (HBI.out.trans (HBJ.out.mono (by omega)))⟩
     case measure => omega
  ·obtain rfl : q = L := by omega
   go_wp2
   go_ret
   exact ⟨rfl, HB1.out.trans (HB.out.mono HB1.out.size)⟩
end Go.Proofs.YtaajpliifdlokaaGreatDoor
