/- Contracts of the dice's Number, Date and Field. -/
import Derived.Shelf.Strconv.Itoa3
import Derived.Test.YtabemneoobbnaaaGreatDoorShI
import Derived.Deep.RegionWith
import Derived.Deep.Cut
import Derived.Deep.CutRange
import Derived.Deep.DeepCutAuto
import Derived.Test.YtabemneoobbnaaaGreatDoorGx
namespace Go.Proofs.YtabemneoobbnaaaGreatDoor
open Go.RowKit Go.Shelf

/-- no end of a line -/
def noNl (t : ByteArray) : Prop := ∀ c ∈ t.data.toList, c ≠ 10 ∧ c ≠ 13
theorem noNl.app {s t : ByteArray} (h : noNl s) (k : noNl t) : noNl (s ++ t) := by
  intro c hc
  rw [ByteArray.data_append, Array.toList_append, List.mem_append] at hc
  rcases hc with hc | hc
  · exact h c hc
  · exact k c hc
/-- small, and without the end of a line -/
def Small (n : Nat) (t : ByteArray) : Prop := t.size ≤ n ∧ noNl t
theorem Small.app {m n : Nat} {s t : ByteArray} (h : Small m s) (k : Small n t) : Small (m + n) (s ++ t) := ⟨by rw [ByteArray.size_append]; have := h.1; have := k.1; omega, h.2.app k.2⟩
theorem Small.more {m n : Nat} {t : ByteArray} (h : Small m t) (hn : m ≤ n) : Small n t := ⟨Nat.le_trans h.1 hn, h.2⟩
instance (n : Nat) (t : ByteArray) : Decidable (Small n t) := by unfold Small noNl; exact inferInstance
theorem small_at {L : List ByteArray} {n : Nat} (h : ∀ x ∈ L, Small n x) {i : Nat} (hi : i < L.length) : Small n (L.getD i ⟨#[]⟩) := by
  have : L.getD i ⟨#[]⟩ ∈ L := by simp [List.getD, hi]
  exact h _ this
theorem strs_cell (L : List ByteArray) (W : World) (i : Nat) (hi : i < L.length) : (W.alloc (.cells (L.map Value.string).toArray 9)).cell? ⟨W.heap.size, i, none⟩ = some (.string (L.getD i ⟨#[]⟩)) := by
  rw [World.cell?_alloc_new]
  simp [List.getD, hi]
def LY : List ByteArray := [⟨#[50, 48, 50, 52]⟩, ⟨#[49, 57, 57, 57]⟩, ⟨#[50, 48, 50, 54]⟩, ⟨#[49, 57, 48, 48]⟩, ⟨#[48, 48, 48, 49]⟩, ⟨#[57, 57, 57, 57]⟩]
def LM : List ByteArray := [⟨#[48, 49]⟩, ⟨#[48, 50]⟩, ⟨#[49, 50]⟩, ⟨#[49, 49]⟩, ⟨#[49, 51]⟩]
def LT : List ByteArray := [⟨#[48, 49]⟩, ⟨#[50, 56]⟩, ⟨#[50, 57]⟩, ⟨#[51, 48]⟩, ⟨#[51, 49]⟩]
def LS : List ByteArray := [⟨#[]⟩, ⟨#[]⟩, ⟨#[]⟩, ⟨#[45]⟩, ⟨#[43]⟩]
def LF : List ByteArray := [⟨#[53]⟩, ⟨#[53, 48]⟩, ⟨#[48]⟩, ⟨#[49, 50, 53]⟩, ⟨#[48, 48, 55]⟩, ⟨#[48, 48, 48, 48, 48, 48, 48, 48, 49]⟩]
def L3 : List ByteArray := [⟨#[121, 101, 115]⟩, ⟨#[110, 111]⟩, ⟨#[84, 82, 85, 69]⟩, ⟨#[70, 97, 108, 115, 101]⟩, ⟨#[32, 121, 101, 115, 32]⟩]
def L4 : List ByteArray := [⟨#[32, 107, 103]⟩, ⟨#[103]⟩, ⟨#[32, 107, 109]⟩, ⟨#[109]⟩, ⟨#[32, 109, 105, 110]⟩, ⟨#[37]⟩, ⟨#[32, 109, 109]⟩]
def L5 : List ByteArray := [⟨#[]⟩, ⟨#[32]⟩, ⟨#[78, 65]⟩, ⟨#[45]⟩, ⟨#[110, 111, 110, 101]⟩, ⟨#[63]⟩, ⟨#[110, 117, 108, 108]⟩]
def L6 : List ByteArray := [⟨#[97, 44, 98]⟩, ⟨#[34, 113, 34]⟩, ⟨#[39]⟩, ⟨#[120, 59, 121]⟩, ⟨#[108, 10, 105]⟩, ⟨#[99, 13, 114]⟩, ⟨#[32, 112, 97, 100, 32]⟩, ⟨#[9]⟩, ⟨#[124]⟩, ⟨#[]⟩, ⟨#[195, 169]⟩, ⟨#[123]⟩, ⟨#[97, 34, 98]⟩, ⟨#[13, 10]⟩]
theorem LY_small : ∀ x ∈ LY, Small 4 x := by decide
theorem LY_cell (W : World) (i : Nat) (hi : i < 6) : (W.alloc (.cells #[.string ⟨#[50, 48, 50, 52]⟩, .string ⟨#[49, 57, 57, 57]⟩, .string ⟨#[50, 48, 50, 54]⟩, .string ⟨#[49, 57, 48, 48]⟩, .string ⟨#[48, 48, 48, 49]⟩, .string ⟨#[57, 57, 57, 57]⟩] 9)).cell? ⟨W.heap.size, i, none⟩ = some (.string (LY.getD i ⟨#[]⟩)) := strs_cell LY W i hi
theorem LM_small : ∀ x ∈ LM, Small 2 x := by decide
theorem LM_cell (W : World) (i : Nat) (hi : i < 5) : (W.alloc (.cells #[.string ⟨#[48, 49]⟩, .string ⟨#[48, 50]⟩, .string ⟨#[49, 50]⟩, .string ⟨#[49, 49]⟩, .string ⟨#[49, 51]⟩] 9)).cell? ⟨W.heap.size, i, none⟩ = some (.string (LM.getD i ⟨#[]⟩)) := strs_cell LM W i hi
theorem LT_small : ∀ x ∈ LT, Small 2 x := by decide
theorem LT_cell (W : World) (i : Nat) (hi : i < 5) : (W.alloc (.cells #[.string ⟨#[48, 49]⟩, .string ⟨#[50, 56]⟩, .string ⟨#[50, 57]⟩, .string ⟨#[51, 48]⟩, .string ⟨#[51, 49]⟩] 9)).cell? ⟨W.heap.size, i, none⟩ = some (.string (LT.getD i ⟨#[]⟩)) := strs_cell LT W i hi
theorem LS_small : ∀ x ∈ LS, Small 1 x := by decide
theorem LS_cell (W : World) (i : Nat) (hi : i < 5) : (W.alloc (.cells #[.string ⟨#[]⟩, .string ⟨#[]⟩, .string ⟨#[]⟩, .string ⟨#[45]⟩, .string ⟨#[43]⟩] 9)).cell? ⟨W.heap.size, i, none⟩ = some (.string (LS.getD i ⟨#[]⟩)) := strs_cell LS W i hi
theorem LF_small : ∀ x ∈ LF, Small 9 x := by decide
theorem LF_cell (W : World) (i : Nat) (hi : i < 6) : (W.alloc (.cells #[.string ⟨#[53]⟩, .string ⟨#[53, 48]⟩, .string ⟨#[48]⟩, .string ⟨#[49, 50, 53]⟩, .string ⟨#[48, 48, 55]⟩, .string ⟨#[48, 48, 48, 48, 48, 48, 48, 48, 49]⟩] 9)).cell? ⟨W.heap.size, i, none⟩ = some (.string (LF.getD i ⟨#[]⟩)) := strs_cell LF W i hi
theorem L3_small : ∀ x ∈ L3, Small 5 x := by decide
theorem L3_cell (W : World) (i : Nat) (hi : i < 5) : (W.alloc (.cells #[.string ⟨#[121, 101, 115]⟩, .string ⟨#[110, 111]⟩, .string ⟨#[84, 82, 85, 69]⟩, .string ⟨#[70, 97, 108, 115, 101]⟩, .string ⟨#[32, 121, 101, 115, 32]⟩] 9)).cell? ⟨W.heap.size, i, none⟩ = some (.string (L3.getD i ⟨#[]⟩)) := strs_cell L3 W i hi
theorem L4_small : ∀ x ∈ L4, Small 4 x := by decide
theorem L4_cell (W : World) (i : Nat) (hi : i < 7) : (W.alloc (.cells #[.string ⟨#[32, 107, 103]⟩, .string ⟨#[103]⟩, .string ⟨#[32, 107, 109]⟩, .string ⟨#[109]⟩, .string ⟨#[32, 109, 105, 110]⟩, .string ⟨#[37]⟩, .string ⟨#[32, 109, 109]⟩] 9)).cell? ⟨W.heap.size, i, none⟩ = some (.string (L4.getD i ⟨#[]⟩)) := strs_cell L4 W i hi
theorem L5_small : ∀ x ∈ L5, Small 4 x := by decide
theorem L5_cell (W : World) (i : Nat) (hi : i < 7) : (W.alloc (.cells #[.string ⟨#[]⟩, .string ⟨#[32]⟩, .string ⟨#[78, 65]⟩, .string ⟨#[45]⟩, .string ⟨#[110, 111, 110, 101]⟩, .string ⟨#[63]⟩, .string ⟨#[110, 117, 108, 108]⟩] 9)).cell? ⟨W.heap.size, i, none⟩ = some (.string (L5.getD i ⟨#[]⟩)) := strs_cell L5 W i hi
theorem L6_size : ∀ x ∈ L6, x.size ≤ 5 := by decide
theorem L6_cell (W : World) (i : Nat) (hi : i < 14) : (W.alloc (.cells #[.string ⟨#[97, 44, 98]⟩, .string ⟨#[34, 113, 34]⟩, .string ⟨#[39]⟩, .string ⟨#[120, 59, 121]⟩, .string ⟨#[108, 10, 105]⟩, .string ⟨#[99, 13, 114]⟩, .string ⟨#[32, 112, 97, 100, 32]⟩, .string ⟨#[9]⟩, .string ⟨#[124]⟩, .string ⟨#[]⟩, .string ⟨#[195, 169]⟩, .string ⟨#[123]⟩, .string ⟨#[97, 34, 98]⟩, .string ⟨#[13, 10]⟩] 9)).cell? ⟨W.heap.size, i, none⟩ = some (.string (L6.getD i ⟨#[]⟩)) := strs_cell L6 W i hi

theorem dec_small : ∀ i, i < 40 → Small 2 ⟨(Lib.decDigits i).toArray⟩ ∧ 1 ≤ (⟨(Lib.decDigits i).toArray⟩ : ByteArray).size := by decide +kernel
theorem itoa_small (i : Nat) (hi : i < 40) (w : World) : Calls Tryz.prog 101 #[.int .i64 (i : Int)] w (fun e w' => ∃ t, e = .returned (.string t) ∧ Small 2 t ∧ 1 ≤ t.size ∧ w = w') :=
  (Any.strconv_Itoa_small Tryz.layItoa i (by omega) w).mono fun e w' h => ⟨_, h.1, (dec_small i hi).1, (dec_small i hi).2, h.2.symm⟩

theorem LS_list (i : Nat) (hi : i < 5) : ([.string ⟨#[]⟩, .string ⟨#[]⟩, .string ⟨#[]⟩, .string ⟨#[45]⟩, .string ⟨#[43]⟩] : List Value)[i]? = some (.string (LS.getD i ⟨#[]⟩)) := by
  rcases (show i = 0 ∨ i = 1 ∨ i = 2 ∨ i = 3 ∨ i = 4 by omega) with rfl | rfl | rfl | rfl | rfl <;> rfl
theorem pickLS (i : Nat) (hi : i < 5) : ∃ t, Small 1 t ∧ (∀ W : World, (W.alloc (.cells #[.string ⟨#[]⟩, .string ⟨#[]⟩, .string ⟨#[]⟩, .string ⟨#[45]⟩, .string ⟨#[43]⟩] 9)).cell? ⟨W.heap.size, i, none⟩ = some (.string t)) ∧ (#[.string ⟨#[]⟩, .string ⟨#[]⟩, .string ⟨#[]⟩, .string ⟨#[45]⟩, .string ⟨#[43]⟩] : Array Value)[i]? = some (.string t) ∧ ([.string ⟨#[]⟩, .string ⟨#[]⟩, .string ⟨#[]⟩, .string ⟨#[45]⟩, .string ⟨#[43]⟩] : List Value)[i]? = some (.string t) := by
  refine ⟨LS.getD i ⟨#[]⟩, small_at LS_small hi, fun W => LS_cell W i hi, ?_, LS_list i hi⟩
  rcases (show i = 0 ∨ i = 1 ∨ i = 2 ∨ i = 3 ∨ i = 4 by omega) with rfl | rfl | rfl | rfl | rfl <;> rfl
theorem diceDrew {w : World} {g : Nat} (h : DiceAt 87 w g) : DiceAt 87 w.drew g := h
/-- a small text, and the dice rolled -/
def TextR (w : World) (g n : Nat) (e : Ending) (w' : World) : Prop := ∃ t, e = .returned (.string t) ∧ Small n t ∧ DiceAt 87 w' g ∧ Roll w.heap.size g w w'

end Go.Proofs.YtabemneoobbnaaaGreatDoor
