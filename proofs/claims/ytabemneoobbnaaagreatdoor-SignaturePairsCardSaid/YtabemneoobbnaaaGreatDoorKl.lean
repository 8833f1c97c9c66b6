/- What signature.compare holds while it calls a function with each pair of columns: words. -/
import Derived.Test.YtabemneoobbnaaaGreatDoorKk
import Derived.Deep.OwnRows
namespace Go.Proofs.YtabemneoobbnaaaGreatDoor
open Go.RowKit Go.Shelf

/-- the call's own blocks, but those that the called function may write, and the row of ranks -/
def CB (w W : World) (Z : Nat → Prop) (rb : Nat) (b : Nat) : Prop := w.heap.size ≤ b ∧ b < W.heap.size ∧ ¬ Z b ∧ b ≠ rb
structure CmpSt (w W : World) (Z : Nat → Prop) (sv : Value) (cs : List Cv) (mb nn : Nat) (F : ByteArray → Option Nat) (rb n : Nat) (f : Nat → Value) (R : Nat → List Nat) (q : Nat) : Prop where
  frame : Below 0 w W
  old : ∀ k, k < w.heap.size → ¬ Z k → W.heap[k]? = w.heap[k]?
  zlt : ∀ k, Z k → k < W.heap.size
  sets : RdCv W (CB w W Z rb) sv cs
  mapI : MapI W mb nn F
  mapb : CB w W Z rb mb
  row : W.rowIs rb 30 n f
  rowb : w.heap.size ≤ rb ∧ rb < W.heap.size ∧ ¬ Z rb
  ranks : ∀ i, i < q → InN W (CB w W Z rb) (f i) (R i)
/-- what a call of the function leaves -/
structure StepZ (Z Z' : Nat → Prop) (W W' : World) : Prop where
  below : Below 0 W W'
  more : ∀ b, Z b → Z' b
  new : ∀ b, Z' b → Z b ∨ W.heap.size ≤ b
  lt : ∀ b, Z' b → b < W'.heap.size
  block : ∀ b, b < W.heap.size → ¬ Z b → W'.heap[b]? = W.heap[b]?
section
variable {w W W' : World} {Z Z' : Nat → Prop} {sv : Value} {cs : List Cv} {mb nn : Nat} {F : ByteArray → Option Nat} {rb n : Nat} {f : Nat → Value} {R : Nat → List Nat} {q : Nat}
theorem StepZ.of_below (hz : ∀ k, Z k → k < W.heap.size) (h : Below W.heap.size W W') : StepZ Z Z W W' :=
  ⟨h.mono (Nat.zero_le _), fun _ h => h, fun _ h => .inl h, fun b hb => Nat.lt_of_lt_of_le (hz b hb) h.size, fun b hb _ => h.block b hb⟩
theorem StepZ.not (h : StepZ Z Z' W W') {b : Nat} (h1 : b < W.heap.size) (h2 : ¬ Z b) : ¬ Z' b := fun h3 => by
  rcases h.new b h3 with h4 | h4
  · exact h2 h4
  · omega
theorem StepZ.cell (h : StepZ Z Z' W W') {p : Addr} (h1 : p.block < W.heap.size) (h2 : ¬ Z p.block) : W'.cell? p = W.cell? p := World.cell?_of_block (h.block _ h1 h2)
theorem CB.step (h : StepZ Z Z' W W') {b : Nat} (hb : CB w W Z rb b) : CB w W' Z' rb b := ⟨hb.1, Nat.lt_of_lt_of_le hb.2.1 h.below.size, h.not hb.2.1 hb.2.2.1, hb.2.2.2⟩
theorem CmpSt.step (h : CmpSt w W Z sv cs mb nn F rb n f R q) (hs : StepZ Z Z' W W') : CmpSt w W' Z' sv cs mb nn F rb n f R q := by
  have hc : ∀ p : Addr, CB w W Z rb p.block → W'.cell? p = W.cell? p := fun p hp => hs.cell hp.2.1 hp.2.2.1
  refine ⟨h.frame.trans hs.below, fun k hk hz => ?_, hs.lt, (h.sets.keep hc).more fun b hb => hb.step hs, h.mapI.later (hs.block _ h.mapb.2.1 h.mapb.2.2.1), h.mapb.step hs, h.row.of_block (hs.block _ h.rowb.2.1 h.rowb.2.2),
    ⟨h.rowb.1, Nat.lt_of_lt_of_le h.rowb.2.1 hs.below.size, hs.not h.rowb.2.1 h.rowb.2.2⟩, fun i hi => (InK.keep (h.ranks i hi) hc).more fun b hb => hb.step hs⟩
  have hz0 : ¬ Z k := fun h0 => hz (hs.more k h0)
  exact (hs.block k (Nat.lt_of_lt_of_le hk h.frame.size) hz0).trans (h.old k hk hz0)
theorem CmpSt.later (h : CmpSt w W Z sv cs mb nn F rb n f R q) (hb : Below W.heap.size W W') : CmpSt w W' Z sv cs mb nn F rb n f R q := h.step (StepZ.of_below h.zlt hb)
theorem CmpSt.store (h : CmpSt w W Z sv cs mb nn F rb n f R q) (hq : q < n) {rv : Value} (hr : InN W (CB w W Z rb) rv (R q)) :
    CmpSt w (W.setCell ⟨rb, q, none⟩ rv) Z sv cs mb nn F rb n (fun j => if j = q then rv else f j) R (q + 1) := by
  have hc : ∀ p : Addr, CB w W Z rb p.block → (W.setCell ⟨rb, q, none⟩ rv).cell? p = W.cell? p := fun p hp => World.cell?_setCell_other _ _ _ _ (by intro e; subst e; exact hp.2.2.2 rfl)
  have hs : ∀ b, CB w W Z rb b → CB w (W.setCell ⟨rb, q, none⟩ rv) Z rb b := fun b hb => ⟨hb.1, by rw [World.size_setCell]; exact hb.2.1, hb.2.2⟩
  refine ⟨h.frame.setCell (p := ⟨rb, q, none⟩) (Nat.zero_le _) rv, fun k hk hz => ?_, fun k hk => by rw [World.size_setCell]; exact h.zlt k hk, (h.sets.keep hc).more hs, h.mapI.later (Below.heap_setCell _ _ _ _ h.mapb.2.2.2), hs _ h.mapb, ?_,
    ⟨h.rowb.1, by rw [World.size_setCell]; exact h.rowb.2.1, h.rowb.2.2⟩, fun i hi => ?_⟩
  · rw [Below.heap_setCell _ _ _ _ (by show k ≠ rb; have := h.rowb.1; omega)]
    exact h.old k hk hz
  · exact (h.row.set q rv)
  · by_cases e : i = q
    · subst e
      rw [if_pos rfl]
      exact (InK.keep hr hc).more hs
    · rw [if_neg e]
      exact (InK.keep (h.ranks i (by omega)) hc).more hs
end
theorem info_slR : (Tryz.prog.info? 30).map (fun i => (i.zero, i.size, i.bytes)) = some (some (.slice none 0 0), 1, 24) := by kernel_rfl
theorem made_ranks (n : Nat) (h : n ≤ 1048576) (w : World) :
    (Instr.makeSlice 38 (.int .i64 (n : Int)) (.int .i64 (n : Int))).run Tryz.prog w = .ok (.slice (some ⟨w.heap.size, 0, none⟩) n n) (w.alloc (.cells (madeCells #[.slice none 0 0] n) 30)) :=
  run_make_row' (P := Tryz.prog) 38 30 (.slice none 0 0) 24 Tryz.underlying38 info_slR rfl .i64 .i64 n (by omega) (by omega) w

/-- the pairs of the first numbers, in the order in which they are compared -/
def prK (q k : Nat) : List (Nat × Nat) := (List.range k).map fun j => (j, q)
def prN (n : Nat) : List (Nat × Nat) := (List.range n).flatMap fun q => prK q q
theorem prK_succ (q k : Nat) : prK q (k + 1) = prK q k ++ [(k, q)] := by simp [prK, List.range_succ]
theorem prN_succ (n : Nat) : prN (n + 1) = prN n ++ prK n n := by simp [prN, List.range_succ]
theorem prN_len (n : Nat) : (prN n).length ≤ n * n := by
  induction n with
  | zero => simp [prN]
  | succ n ih =>
    rw [prN_succ, List.length_append, Nat.succ_mul, Nat.mul_succ]
    have : (prK n n).length = n := by simp [prK]
    omega
theorem pr_len {q k : Nat} (hq : q < 65536) (hk : k < q) : (prN q ++ prK q k).length ≤ 4294967296 := by
  rw [List.length_append]
  have h1 := prN_len q
  have h2 : (prK q k).length = k := by simp [prK]
  have h3 : q * q ≤ 65535 * 65535 := Nat.mul_le_mul (by omega) (by omega)
  omega
/-- values in a certain order -/
def OkO (cs : List Cv) (O : List ByteArray) : Prop := O.Nodup ∧ ∀ s, s ∈ O ↔ s ∈ allOf cs
/-- what the called function does, from pair to pair -/
structure DoOk (g : Nat) (cb : Array Value) (w : World) (cs : List Cv) (J : List (Nat × Nat) → (Nat → Prop) → World → Prop) : Prop where
  lt : ∀ l Z W, J l Z W → ∀ b, Z b → b < W.heap.size
  keep : ∀ l Z W W', J l Z W → W.heap.size ≤ W'.heap.size → (∀ b, b < W.heap.size → (Z b ∨ b < w.heap.size) → W'.heap[b]? = W.heap[b]?) → J l Z W'
  call : ∀ O, OkO cs O → ∀ l k i Z W vx vy (S : Nat → Prop), k < i → i < cs.length → l.length ≤ 4294967296 → J l Z W → w.heap.size ≤ W.heap.size → (∀ b, S b → b < W.heap.size ∧ ¬ Z b) → InN W S vx (rankL O (cs.getD k Cv.z).2) → InN W S vy (rankL O (cs.getD i Cv.z).2) →
    Calls Tryz.prog g (#[.agg #[.int .i64 (cs.getD k Cv.z).1.1, .int .i64 ((cs.getD k Cv.z).1.2 : Int)], .agg #[.int .i64 (cs.getD i Cv.z).1.1, .int .i64 ((cs.getD i Cv.z).1.2 : Int)], vx, vy] ++ cb) W
      (fun e W' => e = .returned (.tuple #[]) ∧ ∃ Z', J (l ++ [(k, i)]) Z' W' ∧ StepZ Z Z' W W')

end Go.Proofs.YtabemneoobbnaaaGreatDoor
