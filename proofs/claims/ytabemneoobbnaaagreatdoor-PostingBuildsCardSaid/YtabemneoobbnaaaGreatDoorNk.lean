/- The walk of PostingSizes, given its sanity check. -/
import Derived.Test.YtabemneoobbnaaaGreatDoorNj
import Derived.Deep.Cut
import Derived.Deep.CutRange
import Derived.Deep.DeepCutAuto
namespace Go.Proofs.YtabemneoobbnaaaGreatDoor
open Go.RowKit

theorem made_int_row (n : Nat) (h : n ≤ 1099511627776) (w : World) :
    (Instr.makeSlice 30 (.int .i64 (n : Int)) (.int .i64 (n : Int))).run Tryz.prog w = .ok (.slice (some ⟨w.heap.size, 0, none⟩) n n) (w.alloc (.cells (madeCells #[.int .i64 0] n) 3)) :=
  run_make_row' (P := Tryz.prog) 30 3 (.int .i64 0) 8 Tryz.underlying30 info_int' rfl .i64 .i64 n (by omega) (by omega) w
theorem InN.rdn {w : World} {S : Nat → Prop} {v : Value} {xs : List Nat} {B : Nat} (h : InN w S v xs) (hS : ∀ b, S b → b < B) : Rd w B v xs.length (natF xs) := InK.rd h hS
theorem ents_sizes {ts : List Ta} (h : ListV ts) : ∀ i, i < (sizeZ (indexOf (cvsL ts)).ents).length → 0 ≤ (sizeZ (indexOf (cvsL ts)).ents).getD i 0 ∧ (sizeZ (indexOf (cvsL ts)).ents).getD i 0 ≤ 4096 := by
  intro i hi
  have hi' : i < (indexOf (cvsL ts)).ents.length := by simpa [sizeZ] using hi
  rw [sizeZ_at hi']
  have hm : (indexOf (cvsL ts)).ents.getD i ((0, 0), 0) ∈ entsOf (cvsL ts) := getD_mem hi' _
  obtain ⟨c, hc, e⟩ := List.mem_map.1 hm
  rw [← e]
  have := cvs_len h c hc
  simp only
  omega
theorem ents_small {ts : List Ta} (h : ListV ts) : (indexOf (cvsL ts)).ents.length ≤ 65536 := by
  show (entsOf (cvsL ts)).length ≤ _
  rw [ents_len, cvsL, cvsK_len]
  have := refs_le (ts := ts) fun t ht => (h.2.1 t ht).2.2.2.1
  have := h.1
  omega

/-- how often a number has been met in the parts before the q-th -/
def doneC (L M P : List Nat) (q j : Nat) : Nat := ([L, M, P].take q).flatten.count j
def partX (L M P : List Nat) (q : Nat) : List Nat := [L, M, P].getD q []
theorem doneC_zero (L M P : List Nat) (j : Nat) : doneC L M P 0 j = 0 := by simp [doneC]
theorem doneC_succ (L M P : List Nat) {q : Nat} (h : q < 3) (j : Nat) : doneC L M P (q + 1) j = doneC L M P q j + (partX L M P q).count j := by
  unfold doneC partX
  rcases (show q = 0 ∨ q = 1 ∨ q = 2 by omega) with rfl | rfl | rfl <;> simp [Nat.add_assoc]
theorem doneC_three (L M P : List Nat) (j : Nat) : doneC L M P 3 j = L.count j + M.count j + P.count j := by
  simp [doneC, Nat.add_assoc]
theorem doneC_le {L M P : List Nat} {n : Nat} (h1 : L.length ≤ n) (h2 : M.length ≤ n) (h3 : P.length ≤ n) {q : Nat} (hq : q ≤ 3) (j : Nat) : doneC L M P q j ≤ 3 * n := by
  have a1 := List.count_le_length (a := j) (l := L)
  have a2 := List.count_le_length (a := j) (l := M)
  have a3 := List.count_le_length (a := j) (l := P)
  rcases (show q = 0 ∨ q = 1 ∨ q = 2 ∨ q = 3 by omega) with rfl | rfl | rfl | rfl <;> simp [doneC] <;> omega
/-- is a number on a list -/
def inB (xs : List Nat) (i : Nat) : Bool := decide (i ∈ xs)
theorem inB_zero (xs : List Nat) (i : Nat) : inB (xs.take 0) i = false := by simp [inB]
theorem inB_succ (xs : List Nat) {k : Nat} (h : k < xs.length) (i : Nat) : inB (xs.take (k + 1)) i = (inB (xs.take k) i || decide (xs.getD k 0 = i)) := by
  unfold inB
  rw [List.take_succ_eq_append_getElem h]
  have e : xs.getD k 0 = xs[k] := by simp [List.getD, h]
  rw [e, Bool.eq_iff_iff]
  simp only [Bool.or_eq_true, decide_eq_true_eq, List.mem_append, List.mem_singleton]
  constructor
  · rintro (h1 | h1)
    · exact .inl h1
    · exact .inr h1.symm
  · rintro (h1 | h1)
    · exact .inl h1
    · exact .inr h1.symm
theorem inB_all (xs : List Nat) (i : Nat) : inB (xs.take xs.length) i = decide (i ∈ xs) := by rw [List.take_length]; rfl
/-- what is known of a part -/
structure PartOk (wc : World) (pa : Option Addr) (pc n : Nat) (X : List Nat) : Prop where
  rd : Rd wc wc.heap.size (.slice pa X.length pc) X.length (natF X)
  lt : ∀ i, i < X.length → X.getD i 0 < n
  up : ∀ i, i + 1 < X.length → X.getD i 0 < X.getD (i + 1) 0
  le : X.length ≤ n

end Go.Proofs.YtabemneoobbnaaaGreatDoor
