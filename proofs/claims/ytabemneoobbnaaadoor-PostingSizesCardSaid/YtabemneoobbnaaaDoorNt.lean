/- Contract of posting.sets: the columns of an index. Contract of posting.sets: the walk. -/
import Derived.Test.YtabemneoobbnaaaDoorNr
import Derived.Test.YtabemneoobbnaaaDoorGt
namespace Go.Proofs.YtabemneoobbnaaaDoor
open Go.RowKit

theorem info_set : (Tryd.prog.info? 58).map (fun i => (i.zero, i.size, i.bytes)) = some (some (.agg #[.int .i64 0, .int .i64 0, .slice none 0 0]), 3, 40) := by kernel_rfl
theorem made_sets (n : Nat) (h : n ≤ 1048576) (w : World) :
    (Instr.makeSlice 55 (.int .i64 (n : Int)) (.int .i64 (n : Int))).run Tryd.prog w = .ok (.slice (some ⟨w.heap.size, 0, none⟩) n n) (w.alloc (.cells (madeCells #[.int .i64 0, .int .i64 0, .slice none 0 0] (n * 3)) 58)) := by
  obtain ⟨i, hi, hz, hs, hb⟩ := info_parts info_set
  have hr := run_make (P := Tryd.prog) w 55 58 i _ Tryd.underlying55 hi hz .i64 .i64 n n (by omega) (Int.le_refl _) (by rw [hb]; omega) (by omega)
  simp only [Int.toNat_natCast, hs, Value.cells] at hr
  exact hr

def setF (rs : Nat → Int × Nat) (f : Nat → Value) (idx : Nat) : Value := three (.int .i64 (rs (idx / 3)).1) (.int .i64 ((rs (idx / 3)).2 : Int)) (f (idx / 3)) (idx % 3)
theorem setF0 (rs : Nat → Int × Nat) (f : Nat → Value) (i : Nat) : setF rs f (i * 3) = .int .i64 (rs i).1 := by
  unfold setF; rw [show i * 3 / 3 = i by omega, show i * 3 % 3 = 0 by omega]; rfl
theorem setF1 (rs : Nat → Int × Nat) (f : Nat → Value) (i : Nat) : setF rs f (i * 3 + 1) = .int .i64 ((rs i).2 : Int) := by
  unfold setF; rw [show (i * 3 + 1) / 3 = i by omega, show (i * 3 + 1) % 3 = 1 by omega]; rfl
theorem setF2 (rs : Nat → Int × Nat) (f : Nat → Value) (i : Nat) : setF rs f (i * 3 + 2) = f i := by
  unfold setF; rw [show (i * 3 + 2) / 3 = i by omega, show (i * 3 + 2) % 3 = 2 by omega]; rfl
theorem setF_ext {rs rs' : Nat → Int × Nat} {f f' : Nat → Value} {n : Nat} {g : Nat → Value} (h0 : ∀ i, i < n → g (i * 3) = .int .i64 (rs i).1) (h1 : ∀ i, i < n → g (i * 3 + 1) = .int .i64 ((rs i).2 : Int)) (h2 : ∀ i, i < n → g (i * 3 + 2) = f i) :
    ∀ idx, idx < n * 3 → g idx = setF rs f idx := by
  intro idx hi
  have hq : idx / 3 < n := by omega
  rcases (show idx % 3 = 0 ∨ idx % 3 = 1 ∨ idx % 3 = 2 by omega) with e | e | e
  · have e1 : idx = idx / 3 * 3 := by omega
    rw [e1, h0 _ hq, setF0]
  · have e1 : idx = idx / 3 * 3 + 1 := by omega
    rw [e1, h1 _ (by omega), setF1]
  · have e1 : idx = idx / 3 * 3 + 2 := by omega
    rw [e1, h2 _ (by omega), setF2]

/-- columns that are filled -/
structure FillSt (w0 w : World) (ob n : Nat) (rs : Nat → Int × Nat) (f : Nat → Value) (ss : Nat → List ByteArray) : Prop where
  row : w.rowIs ob 58 (n * 3) (setF rs f)
  own : ∀ i, i < n → w.ownsRow (ob + 1) 9 1 (f i) (ss i).length ((ss i).map Value.string)
  apart : ∀ i j, i < n → j < n → i ≠ j → (f i).ownBlock = none ∨ (f i).ownBlock ≠ (f j).ownBlock
  below : Below w0.heap.size w0 w
  low : w0.heap.size ≤ ob
section
variable {w0 w w' : World} {ob n : Nat} {rs : Nat → Int × Nat} {f : Nat → Value} {ss : Nat → List ByteArray}
theorem FillSt.later (h : FillSt w0 w ob n rs f ss) (hb : Below w.heap.size w w') : FillSt w0 w' ob n rs f ss :=
  ⟨h.row.of_block (hb.block ob h.row.lt), fun i hi => own_roll (h.own i hi) (Roll.of_below hb 0) (Nat.le_refl _) (by omega), h.apart, h.below.trans (hb.mono h.below.size), h.low⟩
theorem FillSt.ref (h : FillSt w0 w ob n rs f ss) {i : Nat} (hi : i < n) (x : Int × Nat) :
    FillSt w0 ((w.setCell ⟨ob, i * 3, none⟩ (.int .i64 x.1)).setCell ⟨ob, i * 3 + 1, none⟩ (.int .i64 (x.2 : Int))) ob n (fun j => if j = i then x else rs j) f ss := by
  refine ⟨((h.row.set (i * 3) _).set (i * 3 + 1) _).congr (setF_ext (rs' := rs) (f' := f) ?_ ?_ ?_), fun j hj => ownsRow_setCell_below (ownsRow_setCell_below (h.own j hj) (Nat.lt_succ_self ob) _) (Nat.lt_succ_self ob) _, h.apart, ?_, h.low⟩
  · intro j hj
    by_cases e : j = i
    · subst e; rw [if_neg (by omega), if_pos rfl, if_pos rfl]
    · rw [if_neg (by omega), if_neg (by omega), if_neg e, setF0]
  · intro j hj
    by_cases e : j = i
    · subst e; rw [if_pos rfl, if_pos rfl]
    · rw [if_neg (by omega), if_neg (by omega), if_neg e, setF1]
  · intro j hj
    rw [if_neg (by omega), if_neg (by omega), setF2]
  · exact (h.below.setCell (p := ⟨ob, i * 3, none⟩) h.low _).setCell (p := ⟨ob, i * 3 + 1, none⟩) h.low _
theorem FillSt.push (h : FillSt w0 w ob n rs f ss) {c : Nat} (hc : c < n) (s : ByteArray) {p m cap : Nat} (hm : m = (ss c).length + 1)
    (hown : w'.ownsRow (ob + 1) 9 1 (.slice (some ⟨p, 0, none⟩) m cap) m ((ss c).map Value.string ++ [.string s])) (hg : w.grownBy w' (f c).ownBlock) (hat : (f c).ownBlock = some p ∨ p = w.heap.size) :
    FillSt w0 (w'.setCell ⟨ob, c * 3 + 2, none⟩ (.slice (some ⟨p, 0, none⟩) m cap)) ob n rs (fun j => if j = c then .slice (some ⟨p, 0, none⟩) m cap else f j) (fun j => if j = c then ss c ++ [s] else ss j) := by
  have hlt := h.row.lt
  have hv : ∀ k, (f c).ownBlock = some k → ob + 1 ≤ k ∧ k < w.heap.size := fun k hk => (h.own c hc).lt k hk
  have hx : ∀ k, k < ob + 1 → w'.heap[k]? = w.heap[k]? := fun k hk => hg.block k (by omega) (fun e => by have := (hv k e.symm).1; omega)
  have hnb : (Value.slice (some ⟨p, 0, none⟩) m cap).ownBlock = some p := rfl
  have hap : ∀ j, j < n → j ≠ c → (f j).ownBlock = none ∨ (f j).ownBlock ≠ some p := fun j hj hjc => by
    rcases hat with h1 | h1
    · rw [← h1]; exact h.apart j c hj hc hjc
    · cases hb : (f j).ownBlock with
      | none => exact .inl rfl
      | some k =>
        right
        intro e
        have := ((h.own j hj).lt k hb).2
        injection e with e
        omega
  refine ⟨((h.row.of_block (hx ob (Nat.lt_succ_self _))).set (c * 3 + 2) _).congr (setF_ext (rs' := rs) (f' := f) ?_ ?_ ?_), fun j hj => ?_, fun i j hi hj hij => ?_, ?_, h.low⟩
  · intro j hj
    rw [if_neg (by omega), setF0]
  · intro j hj
    rw [if_neg (by omega), setF1]
  · intro j hj
    by_cases e : j = c
    · subst e; rw [if_pos rfl, if_pos rfl]
    · rw [if_neg (by omega), if_neg e, setF2]
  · by_cases e : j = c
    · subst e
      rw [if_pos rfl, if_pos rfl, List.length_append, List.length_singleton, ← hm, List.map_append]
      exact ownsRow_setCell_below hown (Nat.lt_succ_self ob) _
    · rw [if_neg e, if_neg e]
      exact ownsRow_setCell_below ((h.own j hj).kept hg (h.apart j c hj hc e)) (Nat.lt_succ_self ob) _
  · by_cases e : i = c
    · have e2 : j ≠ c := fun h2 => hij (by rw [e, h2])
      rw [if_pos e, if_neg e2, hnb]
      right
      intro h3
      rcases hap j hj e2 with h4 | h4
      · rw [h4] at h3; cases h3
      · exact h4 h3.symm
    · rw [if_neg e]
      by_cases e2 : j = c
      · rw [if_pos e2, hnb]; exact hap i hi e
      · rw [if_neg e2]; exact h.apart i j hi hj hij
  · have hb1 : Below w0.heap.size w0 w' := h.below.trans ⟨hg.os, hg.tape, hg.output, hg.size, fun k hk => hx k (by have := h.low; omega)⟩
    exact hb1.setCell (p := ⟨ob, c * 3 + 2, none⟩) h.low _
end

end Go.Proofs.YtabemneoobbnaaaDoor

namespace Go.Proofs.YtabemneoobbnaaaDoor
open Go.RowKit

theorem made_setF (w : World) (n : Nat) (t : TypeId) : (w.alloc (.cells (madeCells #[.int .i64 0, .int .i64 0, .slice none 0 0] (n * 3)) t)).rowIs w.heap.size t (n * 3) (setF (fun _ => (0, 0)) (fun _ => .slice none 0 0)) := by
  have h := World.rowIs_alloc w (madeCells #[.int .i64 0, .int .i64 0, .slice none 0 0] (n * 3)) t (setF (fun _ => (0, 0)) (fun _ => .slice none 0 0)) (fun i hi => by
    rw [size_madeCells] at hi
    unfold setF
    rcases (show i % 3 = 0 ∨ i % 3 = 1 ∨ i % 3 = 2 by omega) with e | e | e <;> simp [madeCells, hi, e, three])
  rwa [size_madeCells] at h

section
variable {w0 w w' : World} {ob n : Nat} {rs rs' : Nat → Int × Nat} {f : Nat → Value} {ss ss' : Nat → List ByteArray}
theorem FillSt.congr (h : FillSt w0 w ob n rs f ss) (hr : ∀ i, i < n → rs i = rs' i) (hs : ∀ i, i < n → ss i = ss' i) : FillSt w0 w ob n rs' f ss' :=
  ⟨h.row.congr (setF_ext (rs := rs') (f := f) (rs' := rs') (f' := f) (fun i hi => by rw [setF0, hr i hi]) (fun i hi => by rw [setF1, hr i hi]) (fun i _ => by rw [setF2])), fun i hi => by rw [← hs i hi]; exact h.own i hi, h.apart, h.below, h.low⟩
theorem FillSt.start (w0 : World) (n : Nat) : FillSt w0 (w0.alloc (.cells (madeCells #[.int .i64 0, .int .i64 0, .slice none 0 0] (n * 3)) 58)) w0.heap.size n (fun _ => (0, 0)) (fun _ => .slice none 0 0) (fun _ => []) :=
  ⟨made_setF w0 n _, fun _ _ => World.ownsRow_nil _ _ _ _, fun _ _ _ _ _ => .inl rfl, (Below.refl _ _).alloc (Nat.le_refl _) _, Nat.le_refl _⟩
theorem FillSt.done (h : FillSt w0 w ob n rs f ss) {cs : List Cv} (hn : cs.length = n) (hm : n ≤ 1048576) (hr : ∀ i, i < n → rs i = (cs.getD i Cv.z).1) (hs : ∀ i, i < n → ss i = (cs.getD i Cv.z).2) : CvSt w ob 58 (.slice (some ⟨ob, 0, none⟩) n n) cs := by
  subst hn
  have h1 := h.congr hr hs
  clear hr hs h
  obtain ⟨c, hb, hc, hx⟩ := h1.row
  refine ⟨f, ⟨?_, Nat.le_of_lt h1.row.lt, fun i hi => ?_⟩⟩
  · refine ⟨flatK_len _ _ _, .inr ⟨ob, cs.length, c, rfl, Nat.le_refl _, hb, Nat.le_refl _, by unfold maxLen; omega, hc, ?_⟩⟩
    apply List.ext_getElem?
    intro i
    by_cases hi : i < cs.length * 3
    · have h2 := flatK_at (f := cvF cs f) (k := 3) (i := i / 3) (j := i % 3) (show i / 3 < cs.length by omega) (by omega)
      rw [show i / 3 * 3 + i % 3 = i by omega] at h2
      rw [h2, List.getElem?_take_of_lt hi, Array.getElem?_toList, hx i hi]
      rfl
    · rw [List.getElem?_eq_none (by simp [hc]; omega), List.getElem?_eq_none (by rw [flatK_len]; omega)]
  · refine InK.more (inS_of_own (h1.own i hi)) fun b hb => ?_
    have h2 := (h1.own i hi).lt b hb
    exact ⟨by omega, h2.2, fun e => by have e2 : ob = b := by simpa [Value.ownBlock] using e
                                       omega⟩
theorem FillSt.form (h : FillSt w0 w ob n rs f ss) {i : Nat} (hi : i < n) : ∃ a c, f i = .slice a (ss i).length c := own_slice (h.own i hi)
end

/-- the values of a column so far -/
def fillS (cs : List Cv) (vs : List ByteArray) (X : List Nat) (s : ByteArray) (k j : Nat) : List ByteArray := vs.filter (hasL (cs.getD j Cv.z).2) ++ if (X.take k).contains j = true then [s] else []
theorem fillS_zero (cs : List Cv) (vs : List ByteArray) (X : List Nat) (s : ByteArray) (j : Nat) : vs.filter (hasL (cs.getD j Cv.z).2) = fillS cs vs X s 0 j := by simp [fillS]
theorem fillS_step {cs : List Cv} {vs : List ByteArray} {X : List Nat} {s : ByteArray} {k : Nat} (hX : X.Pairwise (· < ·)) (hk : k < X.length) (j : Nat) :
    (if j = X.getD k 0 then fillS cs vs X s k (X.getD k 0) ++ [s] else fillS cs vs X s k j) = fillS cs vs X s (k + 1) j := by
  have e1 : X.getD k 0 = X[k] := by simp [List.getD, hk]
  have hno : (X.take k).contains X[k] = false := by
    rw [List.contains_eq_mem, decide_eq_false_iff_not]
    intro h
    obtain ⟨i, hi, e⟩ := List.mem_iff_getElem.1 h
    rw [List.length_take] at hi
    rw [List.getElem_take] at e
    have := List.pairwise_iff_getElem.1 hX i k (by omega) hk (by omega)
    omega
  have e2 : ∀ j, (X.take (k + 1)).contains j = ((X.take k).contains j || decide (j = X[k])) := fun j => by
    rw [List.take_succ_eq_append_getElem hk, List.contains_eq_mem, List.contains_eq_mem]
    rw [Bool.eq_iff_iff, Bool.or_eq_true, decide_eq_true_iff, decide_eq_true_iff, decide_eq_true_iff, List.mem_append, List.mem_singleton]
  rw [e1]
  by_cases e : j = X[k]
  · subst e
    rw [if_pos rfl]
    unfold fillS
    rw [e2, hno]
    simp
  · rw [if_neg e]
    unfold fillS
    rw [e2]
    simp [e]
theorem fillS_len (cs : List Cv) (vs : List ByteArray) (X : List Nat) (s : ByteArray) (k j : Nat) : (fillS cs vs X s k j).length ≤ vs.length + 1 := by
  unfold fillS
  rw [List.length_append]
  have := List.length_filter_le (hasL (cs.getD j Cv.z).2) vs
  split
  · rw [List.length_singleton]; omega
  · rw [List.length_nil]; omega
theorem fillS_end {cs : List Cv} {vs : List ByteArray} {q : Nat} (hq : q < vs.length) {j : Nat} (hj : j < cs.length) :
    fillS cs (vs.take q) (listOfV cs (vs.getD q ⟨#[]⟩)) (vs.getD q ⟨#[]⟩) (listOfV cs (vs.getD q ⟨#[]⟩)).length j = (vs.take (q + 1)).filter (hasL (cs.getD j Cv.z).2) := by
  unfold fillS
  rw [List.take_length, List.take_succ_eq_append_getElem hq, List.filter_append]
  congr 1
  have e1 : vs.getD q ⟨#[]⟩ = vs[q] := by simp [List.getD, hq]
  rw [e1, List.filter_cons, List.filter_nil, List.contains_eq_mem]
  by_cases h : hasL (cs.getD j Cv.z).2 vs[q] = true
  · rw [if_pos h, if_pos (by rw [decide_eq_true_iff]; exact listOfV_mem.2 ⟨hj, h⟩)]
  · rw [if_neg h, if_neg (by rw [decide_eq_true_iff]; exact fun hm => h (listOfV_mem.1 hm).2)]

end Go.Proofs.YtabemneoobbnaaaDoor
